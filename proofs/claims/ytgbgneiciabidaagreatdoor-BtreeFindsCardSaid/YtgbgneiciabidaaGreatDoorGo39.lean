/-
  Trees (layer 12): what was put and is not named goes (fail).
-/
import Derived.Test.YtgbgneiciabidaaGreatDoorGo38
namespace Go.Proofs.YtgbgneiciabidaaGreatDoor
open Go Go.RowKit Go.Shelf
set_option linter.all false
attribute [local go_sem] Oper.semAt_some

set_option maxHeartbeats 1000000 in
theorem sl_Backward {w : World} (a : Option Addr) (len cap : Nat) :
    Calls Tryz.prog 183 #[.slice a len cap] w fun e w' => e = .returned (.func (.func 214) #[] #[.pointer (some ⟨w.heap.size, 0, none⟩)]) ∧ w' = w.alloc (.cells #[.slice a len cap] 22) := by
  go_enter Tryz.func183, Tryz.ntmps183
  go_wp2
  go_ret
  exact ⟨rfl, rfl⟩
/-- What was put is named, held, or gone. -/
def FailPost (p bank sp N : Nat) (es : List Ent) (Q : Pgs) (l : List Say) (w : World) (r : Ending) (w' : World) : Prop :=
  Kept w w' ∧ r = .returned (.tuple #[]) ∧ ∃ Q', Shr Q Q' ∧ Live Q' ∧ Has w' (btS p bank sp N es Q' :: l)
def FlM (c p bank sp N r1 bb : Nat) (es : List Ent) (Q : Pgs) (pv : Value) (put : List Int) (l : List Say) (pre : List (Int × Int)) (L : List Say) : Prop :=
  ∃ Qp, Shr Q Qp ∧ (∀ a g, VMap.get a Qp = some g → g.holds ≤ 0 → a ∈ put ∧ a ∉ pre.map (·.2)) ∧
    L = btS p bank sp N es Qp :: pts r1 (.cells #[.pointer (some ⟨c, 0, none⟩)] 210 (0, 0)) :: pts bb (.cells #[pv] 22 (0, 0)) :: chL c p pv put l
theorem backs_all (zs : List Int) : ∀ a ∈ zs, a ∈ (backs zs zs.length).map (·.2) := fun a ha => by
  obtain ⟨i, hi, rfl⟩ := List.getElem_of_mem ha
  refine List.mem_map.2 ⟨bkAt zs (zs.length - 1 - i), List.mem_map.2 ⟨zs.length - 1 - i, List.mem_range.2 (by omega), rfl⟩, ?_⟩
  unfold bkAt
  simp only
  rw [show zs.length - 1 - (zs.length - 1 - i) = i by omega, List.getElem?_eq_getElem hi]
  rfl
theorem backs_mem (zs : List Int) {x : Int × Int} (h : x ∈ backs zs zs.length) : x.2 ∈ zs := by
  obtain ⟨k, hk, rfl⟩ := List.mem_map.1 h
  have hk := List.mem_range.1 hk
  unfold bkAt
  simp only
  rw [List.getElem?_eq_getElem (by omega)]
  exact List.getElem_mem _
set_option maxHeartbeats 4000000 in
set_option maxRecDepth 100000 in
theorem ch_fail {w : World} {l : List Say} {c p bank sp N : Nat} {es : List Ent} {Q : Pgs} {put : List Int} {pv : Value} (h : Has w (btS p bank sp N es Q :: chL c p pv put l)) (hlo : ∀ a g, VMap.get a Q = some g → g.holds ≤ 0 → a ∈ put) (hbd : ∀ a ∈ put, 0 ≤ a ∧ a < 32768) (hN : N ≤ 500000) (hp : put.length ≤ 1000) :
    Calls Tryz.prog 126 #[.pointer (some ⟨c, 0, none⟩)] w (FailPost p bank sp N es Q l w) := by
  refine (callsIn_wide (n := 5)).1 ?_
  refine callsIn_of_wp_marks Tryz.func126 rfl trivial ?_ rfl
  obtain ⟨pa, pc, rfl, hx1, hx2⟩ := h.ints_read (v := pv) (xs := put) (by simp [chL])
  clear hx1 hx2
  have hgc := h.at (b := c) (o := .cells #[.pointer (some ⟨p, 0, none⟩), .slice pa put.length pc] 212 (0, 0)) (by simp [chL, changeS])
  have c0 : (w.alloc (.cells #[.pointer (some ⟨c, 0, none⟩)] 210)).cell? ⟨c, 1, none⟩ = some (.slice pa put.length pc) := by
    have h1 : w.cell? ⟨c, 1, none⟩ = some (.slice pa put.length pc) := cell_of hgc 1 rfl
    rw [World.cell?_alloc_lt _ _ _ (World.block_lt_of_cell? _ _ h1)]; exact h1
  have HB := Lib.hid (sl_Backward (w := w.alloc (.cells #[.pointer (some ⟨c, 0, none⟩)] 210)) pa put.length pc)
  have H := Lib.hid h
  have HL := Lib.hid (And.intro hlo (And.intro hbd (And.intro hN hp)))
  clear h hgc hlo hbd hN hp
  simp only [Tryz.ntmps126, List.size_toArray, List.length_cons, List.length_nil, Nat.reduceAdd, Nat.reduceSub, Array.replicate_succ, Array.replicate_zero, List.push_toArray, List.append_toArray, List.nil_append, List.cons_append]
  gi_wp2_with (refine ⟨trivial, ?_⟩; gi_at_call 183; refine (callsIn_wide.2 HB.out).mono ?_; rintro e w' ⟨rfl, rfl⟩)
  have h1 := H.out.alloc (.cells #[.pointer (some ⟨c, 0, none⟩)] 210)
  have h2 := h1.alloc (.cells #[.slice pa put.length pc] 22)
  have hk2 := ((Kept.refl w).alloc (.cells #[.pointer (some ⟨c, 0, none⟩)] 210)).alloc (.cells #[.slice pa put.length pc] 22)
  simp only [World.size_alloc] at h2
  have h3 : Has ((w.alloc (.cells #[.pointer (some ⟨c, 0, none⟩)] 210)).alloc (.cells #[.slice pa put.length pc] 22)) (btS p bank sp N es Q :: pts w.heap.size (.cells #[.pointer (some ⟨c, 0, none⟩)] 210 (0, 0)) :: pts (w.heap.size + 1) (.cells #[.slice pa put.length pc] 22 (0, 0)) :: chL c p (.slice pa put.length pc) put l) := h2.reord [2, 1, 0]
  have HK2 := Lib.hid hk2
  have H3 := Lib.hid h3
  clear h1 h2 h3 hk2 H HB c0
  generalize (w.alloc (.cells #[.pointer (some ⟨c, 0, none⟩)] 210)).alloc (.cells #[.slice pa put.length pc] 22) = W at *
  generalize w.heap.size + 1 = bb at *
  generalize w.heap.size = r1 at *
  obtain ⟨hlo, hbd, hN, hp⟩ := HL.out
  refine wpIn_rangeFunc_sep rfl (by decide) (gf := 214) (lb := #[.pointer (some ⟨bb, 0, none⟩)]) rfl trivial (enters_of Tryz.func214 (by kernel_rfl) rfl) encB (fun _ => rfl) (backs put put.length)
    (FlM c p bank sp N r1 bb es Q (.slice pa put.length pc) put l) ⟨Q, .refl Q, fun a g hg h0 => ⟨hlo a g hg h0, by simp⟩, rfl⟩ H3.out ?seq
    (fun x => { tmps := #[.pointer (some ⟨c, 0, none⟩), .pointer (some ⟨r1, 0, none⟩), undef, .int .i64 x.2, .pointer (some ⟨c, 0, none⟩), .pointer (some ⟨c, 0, none⟩), .pointer (some ⟨c, 1, none⟩), .slice pa put.length pc, .func (.func 214) #[] #[.pointer (some ⟨bb, 0, none⟩)], .int .i64 x.1, .int .i64 x.2, undef, undef, undef, undef, undef, undef, undef, undef, undef, undef, undef, undef, undef], defers := [] }) ?assign ?body ?done
  case seq =>
    intro l2 J W2 hJ hY h0
    refine back1_in Fence.wide (5 - 1) trivial rfl (by decide) l2 bb pa pc put (by omega) J (fun pre W3 hj => ?_) hY W2 h0
    obtain ⟨L, F, ⟨Qp, _, _, rfl⟩, hh⟩ := hJ pre W3 hj
    have hb := hh.at (b := bb) (o := .cells #[.slice pa put.length pc] 22 (0, 0)) (by simp)
    refine ⟨cell_of hb 0 rfl, fun j hj => ?_⟩
    obtain ⟨pa', pc', e1, _, hrd⟩ := hh.ints_read (v := .slice pa put.length pc) (xs := put) (by simp [chL])
    injection e1 with e1 e2 e3
    subst e1
    obtain ⟨g, eg, hc, _⟩ := hrd j hj
    exact ⟨g, eg, by rw [List.getElem?_eq_getElem hj]; exact hc⟩
  case assign =>
    intro l2 x W2 K hK
    simp only [encB]
    gi_wp2
    exact hK
  case body =>
    rintro l2 pre x W2 L F hpre ⟨Qp, hsh, hlp, rfl⟩ hh
    obtain ⟨xi, a⟩ := x
    have hm : a ∈ put := backs_mem put (hpre.subset (List.mem_append_right _ (.head _)))
    obtain ⟨a0, a1⟩ := hbd a hm
    have hb1 := hh.at (b := r1) (o := .cells #[.pointer (some ⟨c, 0, none⟩)] 210 (0, 0)) (by simp)
    have b1 : W2.cell? ⟨r1, 0, none⟩ = some (.pointer (some ⟨c, 0, none⟩)) := cell_of hb1 0 rfl
    have hgc := hh.at (b := c) (o := .cells #[.pointer (some ⟨p, 0, none⟩), .slice pa put.length pc] 212 (0, 0)) (by simp [chL, changeS])
    have c0 : W2.cell? ⟨c, 0, none⟩ = some (.pointer (some ⟨p, 0, none⟩)) := cell_of hgc 0 rfl
    have lc := World.block_lt_of_cell? _ _ c0
    have lb1 := World.block_lt_of_cell? _ _ b1
    have hfr := hh.perm List.perm_middle
    obtain ⟨hIp, hHp⟩ := hfr.bt_inv
    have HHo := Lib.hid (bt_Holds hfr a (by omega) (by omega))
    have HX := Lib.hid (And.intro hsh hlp)
    have Hm := Lib.hid hm
    have HHh := Lib.hid hh
    by_cases hz : holdsOf Qp a = 0
    · have HSc := Lib.hid (bt_Scrap hfr hz (by omega) (by omega) hN)
      rw [hz] at HHo
      clear hlo hbd hpre hsh hlp hh hb1 hgc hfr hIp hHp hz hm
      gi_wp2_with (refine ⟨trivial, ?_⟩; first | (gi_at_call 34; refine (CallsIn.inRound l2 (callsIn_wide.2 HHo.out)).mono ?_; rintro e w' ⟨rfl, rfl⟩) | (gi_at_call 24; refine (CallsIn.inRound l2 (callsIn_wide.2 HSc.out)).mono ?_; rintro e w' ⟨hK, ⟨v, rfl⟩, Q', hs', hno, hh'⟩))
      refine ⟨_, ⟨Q', HX.out.1.trans hs', fun b g hg h0 => ?_, rfl⟩, hh'.perm List.perm_middle.symm⟩
      obtain ⟨g1, e1, l1⟩ := hs'.loo b g hg h0
      obtain ⟨m1, m2⟩ := HX.out.2 b g1 e1 l1
      refine ⟨m1, fun hmm => ?_⟩
      rw [List.map_append] at hmm
      rcases List.mem_append.1 hmm with hmm | hmm
      · exact m2 hmm
      · have : b = a := by simpa using hmm
        subst this
        rw [hno] at hg; cases hg
    · have hzb : (holdsOf Qp a == 0) = false := by simpa using hz
      have Hne : Hid (∀ g, VMap.get a Qp = some g → ¬ g.holds ≤ 0) := fun g hg h0 => by
        obtain ⟨_, q2, q3⟩ := hIp.pg a g hg
        refine hz ?_
        unfold holdsOf
        rw [hg]
        show g.holds = 0
        omega
      generalize holdsOf Qp a = hv at *
      clear hlo hbd hpre hsh hlp hb1 hgc hfr hIp hHp hz hm hh
      gi_wp2_with (refine ⟨trivial, ?_⟩; gi_at_call 34; refine (CallsIn.inRound l2 (callsIn_wide.2 HHo.out)).mono ?_; rintro e w' ⟨rfl, rfl⟩)
      refine ⟨Kept.refl _, _, ⟨Qp, HX.out.1, fun b g hg h0 => ?_, rfl⟩, HHh.out⟩
      obtain ⟨m1, m2⟩ := HX.out.2 b g hg h0
      refine ⟨m1, fun hmm => ?_⟩
      rw [List.map_append] at hmm
      rcases List.mem_append.1 hmm with hmm | hmm
      · exact m2 hmm
      · have : b = a := by simpa using hmm
        subst this
        have := Hne.out g hg
        omega
  case done =>
    rintro D W2 L ⟨Qp, hsh, hlp, rfl⟩ hkW hh
    refine ⟨by simp, .inl ⟨_, _, rfl, run_takeDeferred hh.got, ?_⟩⟩
    have h4 := (hh.putObj (.deferred none)).tail
    refine ⟨_, results_none rfl _ _ _, ?_⟩
    refine ⟨(HK2.out.trans hkW).putObj _ _, rfl, Qp, hsh, fun b g hg => ?_, (h4.reord [1, 1, 1, 1]).tail.tail.tail.tail⟩
    by_cases h0 : 0 < g.holds
    · exact h0
    · obtain ⟨m1, m2⟩ := hlp b g hg (by omega)
      exact absurd (backs_all put b m1) m2
end Go.Proofs.YtgbgneiciabidaaGreatDoor
/-
  Trees (layer 12): what a change of one tree leaves of the others, in plain Lean.
-/
namespace Go.Proofs.YtgbgneiciabidaaGreatDoor
open Go Go.RowKit
set_option linter.all false

def oneAt (a b : Int) : Int := if b = a ∧ a ≠ 0 then 1 else 0
/-- One root is put in the place of another: the holds, and the trees that are held yet. -/
structure Moved (Q Q' : Pgs) (root ta : Int) : Prop where
  held : ∀ b, heldOf Q' b + oneAt root b = heldOf Q b + oneAt ta b
  tree : ∀ b lv L s, 0 < heldOf Q' b → Tr Q lv b L s → Tr Q' lv b L s
theorem held_nn {es : List Ent} {Q : Pgs} {D : Int → Nat} (hI : FInv es Q D) (b : Int) : 0 ≤ heldOf Q b := by
  unfold heldOf
  cases hg : VMap.get b Q with
  | none => exact Int.le_refl 0
  | some g => exact (hI.pg b g hg).2.1
theorem shr_held {es : List Ent} {Q Q' : Pgs} {D : Int → Nat} (hI : FInv es Q D) (h : Shr Q Q') (b : Int) : heldOf Q' b = heldOf Q b := by
  have h0 := held_nn hI b
  cases hg' : VMap.get b Q' with
  | some g' =>
    obtain ⟨g, hg, _, he⟩ := h.sub b g' hg'
    unfold heldOf
    rw [hg, hg']
    exact he
  | none =>
    by_cases hp : 0 < heldOf Q b
    · obtain ⟨g, hg, e⟩ := heldOf_some hp
      have := h.kep b g hg (by omega)
      rw [hg'] at this; cases this
    · have : heldOf Q' b = 0 := by unfold heldOf; rw [hg']; rfl
      omega
theorem dropd_held {es : List Ent} {Q Q' : Pgs} {D : Int → Nat} (hI : FInv es Q D) {a : Int} (h : Dropd a Q Q') (ha : 0 < heldOf Q a) (b : Int) : heldOf Q' b + oneAt a b = heldOf Q b := by
  have h0 := held_nn hI b
  obtain ⟨ga, hga, ea⟩ := heldOf_some ha
  have hbd := (hI.adr a (by rw [hga]; rfl)).bd
  have hone : oneAt a b = if b = a then 1 else 0 := by
    unfold oneAt
    by_cases hb : b = a
    · rw [if_pos ⟨hb, by omega⟩, if_pos hb]
    · rw [if_neg (fun x => hb x.1), if_neg hb]
  rw [hone]
  cases hg' : VMap.get b Q' with
  | some g' =>
    obtain ⟨g, hg, _, he⟩ := h.sub b g' hg'
    unfold heldOf
    rw [hg, hg']
    exact he
  | none =>
    have e0 : heldOf Q' b = 0 := by unfold heldOf; rw [hg']; rfl
    by_cases hp : (if b = a then 1 else 0) < heldOf Q b
    · obtain ⟨g, hg, e⟩ := heldOf_some (Q := Q) (a := b) (by split at hp <;> omega)
      have := h.kep b g hg (by omega)
      rw [hg'] at this; cases this
    · rw [e0]
      split at hp
      · rename_i e; subst e; rw [if_pos rfl]; omega
      · rename_i e; rw [if_neg e]; omega
theorem Agree.trees {es : List Ent} {Q Q' : Pgs} {D : Int → Nat} (hI : FInv es Q' D) (ha : Agree Q Q') {lv : Nat} {b : Int} {L : List KV} {s : Nat} (hb : 0 < heldOf Q' b) (h : Tr Q lv b L s) : Tr Q' lv b L s := by
  obtain ⟨g, hg, _⟩ := heldOf_some hb
  exact h.agree hI ha (by rw [hg]; rfl)
/-- Nothing came of it. -/
theorem moved_fail {es : List Ent} {Q Q1 Q' : Pgs} {news : List (Int × Nd)} (hI : FInv es Q (fun _ => 0)) (hp : Puts es Q news Q1) (hs : Shr Q1 Q') (hI' : FInv es Q' (fun _ => 0)) : Moved Q Q' 0 0 := by
  refine ⟨fun b => ?_, fun b lv L s hb h => hs.agree.trees hI' hb (h.mono hp.same)⟩
  rw [shr_held (hp.inv hI) hs, hp.held]
theorem moved_done {es : List Ent} {Q Q1 Q2 Q3 Q' : Pgs} {news : List (Int × Nd)} {L : List KV} {lv B : Nat} {root ta : Int} (hI : FInv es Q (fun _ => 0)) (hp : Puts es Q news Q1) (hd : DoneTo Q1 Q2 L lv B ta) (h2 : Dropd root Q2 Q3) (hI3 : FInv es Q3 (fun _ => 0)) (hs : Shr Q3 Q') (hI' : FInv es Q' (fun _ => 0)) (hr : 0 < heldOf Q root) (hS : Srt L) :
    Moved Q Q' root ta ∧ ∃ s', s' ≤ B ∧ Root Q' ta L s' := by
  have hI1 := hp.inv hI
  have hr1 : 0 < heldOf Q1 root := by rw [hp.held]; exact hr
  rcases hd with ⟨rfl, rfl, rfl⟩ | ⟨lv', s', g, hlv, hs', hT, hg, rfl⟩
  · refine ⟨⟨fun b => ?_, fun b lv L s hb h => (h2.agree.trans hs.agree).trees hI' hb (h.mono hp.same)⟩, 0, Nat.zero_le _, .nil _⟩
    rw [shr_held hI3 hs, dropd_held hI1 h2 hr1, hp.held]
    unfold oneAt
    rw [if_neg (fun x => x.2 rfl)]
    omega
  · have hg0 := (hI1.pg ta g hg).2.1
    have hI2 := hI1.more hg 1 (by omega)
    have hta := (hI1.adr ta (by rw [hg]; rfl)).bd
    have hr2 := held_more hg hr1
    have hold : ∀ b, heldOf Q' b + oneAt root b = heldOf Q b + oneAt ta b := fun b => by
      rw [shr_held hI3 hs, dropd_held hI2 h2 hr2, heldOf_put]
      unfold oneAt
      by_cases hb : b = ta
      · subst hb
        rw [if_pos rfl, if_pos ⟨rfl, by omega⟩, ← hp.held]
        unfold heldOf
        rw [hg]
        rfl
      · rw [if_neg hb, if_neg (fun x => hb x.1), hp.held]
        omega
    have htree : ∀ b lv L s, 0 < heldOf Q' b → Tr Q1 lv b L s → Tr Q' lv b L s := fun b lv L s hb h => (h2.agree.trans hs.agree).trees hI' hb (h.mono (more_same hg 1))
    have hto : 0 < heldOf Q' ta := by
      have h1 := hold ta
      have h3 := held_nn hI ta
      unfold oneAt at h1
      rw [if_pos (c := ta = ta ∧ ta ≠ 0) ⟨rfl, by omega⟩] at h1
      by_cases he : ta = root
      · subst he
        rw [if_pos ⟨rfl, by omega⟩] at h1
        omega
      · rw [if_neg (fun x => he x.1)] at h1
        omega
    exact ⟨⟨hold, fun b lv L s hb h => htree b lv L s hb (h.mono hp.same)⟩, s', hs', ⟨.inr ⟨lv', htree _ _ _ _ hto hT, hS, hto⟩⟩⟩
end Go.Proofs.YtgbgneiciabidaaGreatDoor
/-
  Trees (layer 12): a change of the leaf of a key (run).
-/
namespace Go.Proofs.YtgbgneiciabidaaGreatDoor
open Go Go.RowKit
set_option linter.all false

theorem ch_done {w : World} {l : List Say} {c p bank sp N : Nat} {es : List Ent} {Q : Pgs} {put : List Int} {pv rv : Value} (root : Int) {outs : List KV} {L : List KV} {lv s : Nat} (h2 : outs.length ≤ 2) (h : Has w (pairsS rv outs :: btS p bank sp N es Q :: chL c p pv put l)) (ht : Tab l) (hT : TrL Q lv outs L s) (hs : Srt L) (hrt : ∀ q ∈ L, pairOk q.1 q.2 = true) (h20 : outs.length = 2 → lv + 1 ≤ 20) (hr : 0 < heldOf Q root) (hN : N ≤ 300000) (hput : put.length ≤ 900) :
    Calls Tryz.prog 163 #[.pointer (some ⟨c, 0, none⟩), .int .i64 root, rv] w (DonePost c p bank sp N es Q put root L lv (s + if outs.length = 2 then 2 ^ (lv + 1) else 0) l w) := by
  rcases outs with _ | ⟨⟨k, a⟩, _ | ⟨⟨k2, a2⟩, _ | ⟨x, T⟩⟩⟩
  · cases hT
    exact ch_done0 root h hr (by omega)
  · obtain ⟨LM, LB, sM, sB, q1, _, q3, rfl, rfl⟩ := TrG.one hT
    cases q3
    have := ch_done1 root k a (L := LM) (s := sM) h q1 hr (by omega)
    simpa using this
  · exact ch_done2 root k a k2 a2 h ht hT hs hrt (h20 rfl) hr hN hput
  · simp at h2
def RunPost (p bank sp N : Nat) (es : List Ent) (Q : Pgs) (root : Int) (L : List KV) (lv B : Nat) (l : List Say) (w : World) (r : Ending) (w' : World) : Prop :=
  Kept w w' ∧ ∃ Q', Live Q' ∧ Has w' (btS p bank sp (N + 50) es Q' :: l) ∧
    ((r = .returned (.tuple #[.int .i64 0, errV 50]) ∧ (∃ Q1 news, Puts es Q news Q1 ∧ news.length ≤ 2 * (lv + 1) + 1 ∧ FullQ es Q1) ∧ Moved Q Q' 0 0) ∨
     ∃ ta s', r = .returned (.tuple #[.int .i64 ta, .nilIface]) ∧ Moved Q Q' root ta ∧ s' ≤ B ∧ Root Q' ta L s')
theorem Puts.bd {es : List Ent} {Q Q' : Pgs} {news : List (Int × Nd)} (h : Puts es Q news Q') : ∀ a ∈ news.map (·.1), 0 ≤ a ∧ a < 32768 := fun a ha => by
  obtain ⟨x, hx, rfl⟩ := List.mem_map.1 ha
  obtain ⟨_, h1, h2, _⟩ := h.fresh x hx
  exact ⟨by omega, h2⟩
theorem lv_lt {lv s : Nat} (h : 2 ^ lv ≤ s) (hs : s ≤ 1000000) : lv ≤ 19 := by
  refine Nat.le_of_not_lt fun hl => ?_
  have : 2 ^ 20 ≤ 2 ^ lv := Nat.pow_le_pow_right (by omega) hl
  omega
set_option maxHeartbeats 4000000 in
set_option maxRecDepth 100000 in
theorem bt_run {w : World} {l : List Say} {p bank sp N : Nat} {es : List Ent} {Q : Pgs} {lf : Value} {C : List Say} {op : List KV → List KV} {e : Nat} {need : Bool} (root key : Int) {L : List KV} {lv s : Nat}
    (hop : ChgOk op key e) (hlf : LeafC lf C op key need) (hC : ∀ A ∈ C, A ∈ l) (h : Has w (btS p bank sp N es Q :: l)) (ht : Tab l) (hT : Tr Q lv root L s) (hs : Srt L) (hneed : need = true → ∃ x ∈ L, x.1 = key) (hL : Live Q) (hr : 0 < heldOf Q root) (hN : N ≤ 200000) (hB : s + e ≤ 1000000) :
    Calls Tryz.prog 99 #[.pointer (some ⟨p, 0, none⟩), .int .i64 root, .int .i64 key, lf] w (RunPost p bank sp N es Q root (op L) lv (s + e) l w) := by
  have hlv := lv_lt hT.weighs.2 (by omega)
  obtain ⟨hI, hH⟩ := h.bt_inv
  have hk0 := (Kept.refl w).alloc (.cells #[.pointer (some ⟨p, 0, none⟩), .slice none 0 0] 212)
  have h1 := h.alloc (.cells #[.pointer (some ⟨p, 0, none⟩), .slice none 0 0] 212)
  have h2 : Has (w.alloc (.cells #[.pointer (some ⟨p, 0, none⟩), .slice none 0 0] 212)) (btS p bank sp N es Q :: chL w.heap.size p (.slice none 0 0) [] l) := by
    have h3 := h1.row_nil 3 1
    exact h3.reord [2, 1, 0]
  have HD := Lib.hid (ch_down lv root key true hop hlf hC h2 ht hT hs hneed (by omega) (by simp; omega))
  have Hrt := Lib.hid (hT.right hI)
  have H0 := Lib.hid (And.intro hop (And.intro ht (And.intro hs (And.intro hL (And.intro hr (And.intro hI hk0))))))
  have HL := Lib.hid (And.intro hlv (And.intro hN hB))
  obtain ⟨K, caps, rfl, hmay, hleaf⟩ := hlf
  clear h h1 h2 hI hH hop hC ht hT hs hneed hL hr hN hB hlv hk0 hmay hleaf
  go_enter Tryz.func99, Tryz.ntmps99
  go_wp2_with fail
  generalize w.alloc (.cells #[.pointer (some ⟨p, 0, none⟩), .slice none 0 0] 212) = W0 at *
  generalize w.heap.size = c at *
  refine HD.out.mono ?_
  rintro r w1 ⟨hK1, news, Q1, pv1, hps, hnl, (⟨hfull, rfl, h3⟩ | ⟨v, outs, lv1, s1, rfl, hol, hlv1, _, hTL, hsum, h3⟩)⟩
  · obtain ⟨hop, ht, hs, hL, hr, hI, hk0⟩ := H0.out
    obtain ⟨hlv, hN, hB⟩ := HL.out
    have hI1 := h3.bt_inv.1
    have HF := Lib.hid (ch_fail h3 (fun a g hg h0 => by simpa using hps.loose hL a g hg h0) (by simpa using hps.bd) (by omega) (by simp; omega))
    have HX : Hid (∀ r2 w2, FailPost p bank sp (N + 2 * (lv + 1)) es Q1 l w1 r2 w2 → RunPost p bank sp N es Q root (op L) lv (s + e) l w (.returned (.tuple #[.int .i64 0, errV 50])) w2) := by
      rintro r2 w2 ⟨hK2, _, Q2, hsh, hlive, h4⟩
      exact ⟨(hk0.trans hK1).trans hK2, Q2, hlive, h4.bt_more (by omega), .inl ⟨rfl, ⟨Q1, news, hps, by omega, hfull⟩, moved_fail hI hps hsh h4.bt_inv.1⟩⟩
    clear hop ht hs hL hr hI hk0 hlv hN hB hI1 hK1 hps hnl hfull h3 H0 HL HD Hrt
    simp only [errV] at HX ⊢
    go_wp2_with fail
    refine HF.out.mono ?_
    rintro r2 w2 hpost
    have HE := Lib.hid (HX.out r2 w2 hpost)
    have hr2 := hpost.2.1
    subst hr2
    clear hpost HX HF
    go_wp2
    go_ret2
    exact HE.out
  · obtain ⟨hop, ht, hs, hL, hr, hI, hk0⟩ := H0.out
    obtain ⟨hlv, hN, hB⟩ := HL.out
    have hrt1 : ∀ q ∈ op L, pairOk q.1 q.2 = true := fun q hq => (hop.mem hq).elim (Hrt.out q) id
    have hr1 : 0 < heldOf Q1 root := by rw [hps.held]; exact hr
    have HDn := Lib.hid (ch_done root hol h3 ht hTL (hop.srt hs) hrt1 (fun h2 => by
      rw [if_pos h2] at hsum
      have := lv_lt (lv := lv1 + 1) (s := 2 ^ (lv1 + 1)) (Nat.le_refl _) (by omega)
      omega) hr1 (by omega) (by simp; omega))
    obtain ⟨va, vc, rfl, hx⟩ := h3.row_val (v := v) (.head _)
    have H1 := Lib.hid (And.intro hps (And.intro hsum (And.intro hnl (And.intro hK1 hlv1))))
    clear hop ht hs hL hr hI hk0 hlv hN hB hK1 hps hnl h3 HD Hrt hrt1 hr1 hx hsum hlv1 hTL hol
    go_wp2_with fail
    refine HDn.out.mono ?_
    rintro r w2 ⟨hK2, ⟨x, y, rfl⟩, news2, Qa, pv2, hps2, hnl2, hcase⟩
    obtain ⟨hop, ht, hs, hL, hr, hI, hk0⟩ := H0.out
    obtain ⟨hps, hsum, hnl, hK1, hlv1⟩ := H1.out
    obtain ⟨hlv, hN, hB⟩ := HL.out
    have hpp := hps.trans hps2
    rcases hcase with ⟨hfull, he, h4⟩ | ⟨ta, Q2, Q3, he, hd, hdr, h4⟩
    · injection he with he
      injection he with he
      simp only [Array.mk.injEq, List.cons.injEq, and_true] at he
      obtain ⟨rfl, rfl⟩ := he
      rw [List.nil_append, ← List.map_append] at h4
      have HF := Lib.hid (ch_fail h4 (fun a g hg h0 => hpp.loose hL a g hg h0) hpp.bd (by omega) (by simp; omega))
      have HX : Hid (∀ r2 w3, FailPost p bank sp (N + 2 * (lv + 1) + 2) es Qa l w2 r2 w3 → RunPost p bank sp N es Q root (op L) lv (s + e) l w (.returned (.tuple #[.int .i64 0, errV 50])) w3) := by
        rintro r2 w3 ⟨hK3, _, Q4, hsh, hlive, h5⟩
        exact ⟨((hk0.trans hK1).trans hK2).trans hK3, Q4, hlive, h5.bt_more (by omega), .inl ⟨rfl, ⟨Qa, _, hpp, by rw [List.length_append]; omega, hfull⟩, moved_fail hI hpp hsh h5.bt_inv.1⟩⟩
      clear hop ht hs hL hr hI hk0 hlv hN hB hK1 hK2 hps hps2 hpp hnl hnl2 hfull h4 H0 H1 HL HDn hsum hlv1
      simp only [errV] at HX ⊢
      go_wp2_with fail
      refine HF.out.mono ?_
      rintro r2 w3 hpost
      have HE := Lib.hid (HX.out r2 w3 hpost)
      have hr2 := hpost.2.1
      subst hr2
      clear hpost HX HF
      go_wp2
      go_ret2
      exact HE.out
    · injection he with he
      injection he with he
      simp only [Array.mk.injEq, List.cons.injEq, and_true] at he
      obtain ⟨rfl, rfl⟩ := he
      rw [List.nil_append, ← List.map_append] at h4
      have hI3 := h4.bt_inv.1
      have hlo : ∀ a g, VMap.get a Q3 = some g → g.holds ≤ 0 → a ∈ (news ++ news2).map (·.1) := fun a g hg h0 => by
        obtain ⟨g2, e2, l2⟩ := hdr.loo a g hg h0
        rcases hd with ⟨_, _, rfl⟩ | ⟨_, _, ga, _, _, _, hga, rfl⟩
        · exact hpp.loose hL a g2 e2 l2
        · by_cases hb : a = ta
          · subst hb
            rw [get_put, if_pos rfl] at e2
            obtain rfl := Option.some.inj e2
            refine hpp.loose hL a ga hga ?_
            have : (ga.more 1).holds = ga.holds + 1 := rfl
            omega
          · rw [get_put, if_neg hb] at e2
            exact hpp.loose hL a g2 e2 l2
      have HF := Lib.hid (ch_fail h4 hlo hpp.bd (by omega) (by simp; omega))
      have HX : Hid (∀ r2 w3, FailPost p bank sp (N + 2 * (lv + 1) + 2) es Q3 l w2 r2 w3 → RunPost p bank sp N es Q root (op L) lv (s + e) l w (.returned (.tuple #[.int .i64 ta, .nilIface])) w3) := by
        rintro r2 w3 ⟨hK3, _, Q4, hsh, hlive, h5⟩
        obtain ⟨hmv, s', hs', hroot⟩ := moved_done hI hpp hd hdr hI3 hsh h5.bt_inv.1 hr (hop.srt hs)
        exact ⟨((hk0.trans hK1).trans hK2).trans hK3, Q4, hlive, h5.bt_more (by omega), .inr ⟨ta, s', rfl, hmv, by omega, hroot⟩⟩
      clear hop ht hs hL hr hI hk0 hlv hN hB hK1 hK2 hps hps2 hpp hnl hnl2 hd hdr h4 hI3 hlo H0 H1 HL HDn hsum hlv1
      go_wp2_with fail
      refine HF.out.mono ?_
      rintro r2 w3 hpost
      have HE := Lib.hid (HX.out r2 w3 hpost)
      have hr2 := hpost.2.1
      subst hr2
      clear hpost HX HF
      go_wp2
      go_ret2
      exact HE.out
end Go.Proofs.YtgbgneiciabidaaGreatDoor
