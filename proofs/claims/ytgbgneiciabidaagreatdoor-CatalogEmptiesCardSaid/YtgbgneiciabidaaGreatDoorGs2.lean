/-
  Rosters (layer 5): right entries, which are Active.
-/
import Derived.Test.YtgbgneiciabidaaGreatDoorGs1
import Derived.Deep.LoopGhost
import Derived.WalkSpells
import Derived.Lib.SliceRun
import Derived.Maps.Own
import Derived.Maps.Keyed
namespace Go.Proofs.YtgbgneiciabidaaGreatDoor
open Go Go.RowKit
set_option linter.all false
set_option maxHeartbeats 8000000
structure Ent where
 st : Nat
 size : Nat
 deriving DecidableEq
def Ent.val (e : Ent) : Value := .agg #[.int .i64 (e.st : Int), .int .i64 (e.size : Int)]
def Ent.cells (e : Ent) : List Value := [.int .i64 (e.st : Int), .int .i64 (e.size : Int)]
def Ent.ok (e : Ent) : Prop := e.size <= 4096 /\ ((e.st = 1 \/ e.st = 2) /\ 2 < e.size \/ e.st = 3)
def entS (v : Value) (es : List Ent) : Say := rowS 139 2 v es.length (es.flatMap Ent.cells)
theorem flat_at (es : List Ent) : ∀ (k : Nat) (e : Ent), es[k]? = some e -> (es.flatMap Ent.cells)[k * 2]? = some (.int .i64 (e.st : Int)) /\ (es.flatMap Ent.cells)[k * 2 + 1]? = some (.int .i64 (e.size : Int)) := by
 induction es with
 | nil => intro k e h; simp at h
 | cons x es ih =>
  intro k e h
  cases k with
  | zero => simp at h; subst h; simp [Ent.cells]
  | succ k =>
   have := ih k e (by simpa using h)
   rw [show (k + 1) * 2 = k * 2 + 2 by omega]
   simpa [Ent.cells, List.flatMap_cons] using this
theorem flat_len (es : List Ent) : (es.flatMap Ent.cells).length = es.length * 2 := by
 induction es with
 | nil => rfl
 | cons x es ih => rw [List.flatMap_cons, List.length_append, ih]; simp [Ent.cells]; omega
theorem Has.ent_read {w : World} {l : List Say} {v : Value} {es : List Ent} (h : Has w l) (hm : entS v es ∈ l) :
  ∃ a c, v = .slice a es.length c /\ es.length <= c /\ ∀ k e, es[k]? = some e -> ∃ g, a = some ⟨g, 0, none⟩ /\ w.cell? ⟨g, k * 2, none⟩ = some (.int .i64 (e.st : Int)) /\ w.cell? ⟨g, k * 2 + 1, none⟩ = some (.int .i64 (e.size : Int)) := by
 obtain ⟨h1, h2⟩ := h.row_own hm
 rcases h2 with ⟨rfl, h0⟩ | ⟨g, cap, cur, rfl, _, hg, hn, hc, hs, ht⟩
 ·refine ⟨none, 0, by rw [h0], by omega, fun k e he => ?_⟩
  have := (List.getElem?_eq_some_iff.1 he).1
  omega
 ·refine ⟨_, cap, rfl, hn, fun k e he => ?_⟩
  obtain ⟨e1, e2⟩ := flat_at es k e he
  have hk := (List.getElem?_eq_some_iff.1 he).1
  rw [<- ht, List.getElem?_take_of_lt (by omega)] at e1 e2
  exact ⟨g, rfl, cell_of hg _ (by simpa using e1), cell_of hg _ (by simpa using e2)⟩
theorem bcell {w W : World} (hb : Below W.heap.size W w) : (∀ b o, b < W.heap.size -> w.cell? ⟨b, o, none⟩ = W.cell? ⟨b, o, none⟩) /\ (∀ b o, b < W.heap.size -> w.frozen? ⟨b, o, none⟩ = W.frozen? ⟨b, o, none⟩) :=
 ⟨fun b o h => hb.cell (p := ⟨b, o, none⟩) h, fun b o h => hb.frozen (p := ⟨b, o, none⟩) h⟩
theorem ent_right (e : Ent) (h : e.ok) (w : World) : Calls Tryz.prog 177 #[e.val] w fun r w' => r = .returned (.bool true) /\ Below w.heap.size w w' := by
 obtain ⟨s, z⟩ := e
 obtain ⟨h1, h2⟩ := h
 simp only [Ent.val] at *
 rcases h2 with ⟨rfl | rfl, h3⟩ | rfl
 all_goals
  go_enter Tryz.func177, Tryz.ntmps177
  go_wp2
  go_ret
  exact ⟨by simp; try omega, (Below.refl _ _).alloc (Nat.le_refl _) _⟩
theorem ent_check1 (e : Ent) (h : e.ok) (w : World) : Calls Tryz.prog 176 #[e.val] w fun r w' => r = .returned (.bool false) /\ Below w.heap.size w w' := by
 have H := Lib.hid (ent_right e h (w.alloc (.cells #[.int .i64 (e.st : Int), .int .i64 (e.size : Int)] 139)))
 simp only [Ent.val] at *
 go_enter Tryz.func176, Tryz.ntmps176
 go_wp2_with fail
 refine H.out.mono ?_
 rintro r w1 ⟨rfl, hb⟩
 have HB := Lib.hid hb
 clear hb
 go_wp2
 go_ret
 exact ⟨rfl, ((Below.refl _ _).alloc (Nat.le_refl _) _).trans (HB.out.mono (by simp))⟩
theorem ent_active1 (e : Ent) (w : World) : Calls Tryz.prog 148 #[e.val] w fun r w' => r = .returned (.bool (e.st == 1)) /\ Below w.heap.size w w' := by
 have hs : ((e.st : Int) == 1) = (e.st == 1) := by rw [Bool.eq_iff_iff]; simp; omega
 simp only [Ent.val] at *
 go_enter Tryz.func148, Tryz.ntmps148
 go_wp2
 go_ret
 exact ⟨by rw [<- hs]; rfl, (Below.refl _ _).alloc (Nat.le_refl _) _⟩
def entFirst (p : Ent -> Bool) (es : List Ent) : Int := match es.findIdx? p with | some i => i | none => -1
theorem entFirst_any (p : Ent -> Bool) (es : List Ent) : decide (0 <= entFirst p es) = es.any p := by
 unfold entFirst
 cases h : es.findIdx? p with
 | none =>
  rw [List.findIdx?_eq_none_iff] at h
  have : es.any p = false := by simpa using h
  rw [this]; rfl
 | some i =>
  rw [List.findIdx?_eq_some_iff_getElem] at h
  obtain ⟨hi, hp, _⟩ := h
  have : es.any p = true := List.any_eq_true.2 ⟨_, List.getElem_mem hi, hp⟩
  rw [this]; simp
def IdxRel (p : Ent -> Bool) (es : List Ent) (w : World) (gk : Nat) (i : Value) (wr : World) : Prop :=
 ∃ k : Nat, k <= es.length /\ gk = es.length - k /\ i = .int .i64 k /\ Below w.heap.size w wr /\ ∀ j (h : j < es.length), j < k -> p es[j] = false
set_option maxRecDepth 100000 in
theorem IndexFuncEnt (K : FuncId) (hK : May K) (p : Ent -> Bool) {w : World} {l : List Say} {v : Value} {es : List Ent} (h : Has w l) (hm : entS v es ∈ l) (hlen : es.length <= 8)
  (hp : ∀ e ∈ es, ∀ w1 : World, Calls Tryz.prog K #[e.val] w1 fun r w2 => r = .returned (.bool (p e)) /\ Below w1.heap.size w1 w2) :
  Calls Tryz.prog 213 #[v, .func (.func K) #[] #[]] w fun r w' => r = .returned (.int .i64 (entFirst p es)) /\ Below w.heap.size w w' := by
 have hcall := fun (vs : Array Value) (w : World) => hK.run vs w
 obtain ⟨a, c, rfl, hc, hr⟩ := h.ent_read hm
 have Hr := Lib.hid hr
 have Hp := Lib.hid hp
 clear hr hp h hm
 go_enter Tryz.func213, Tryz.ntmps213
 go_wp2
 go_loopg [8] es.length (fun gk i wr => IdxRel p es w gk i wr)
 case atStart => exact ⟨0, Nat.zero_le _, rfl, rfl, Below.refl _ _, fun _ _ h => absurd h (Nat.not_lt_zero _)⟩
 case round =>
  obtain ⟨k, hk, rfl, rfl, hb, hno⟩ := hrel
  have Hno := Lib.hid hno
  have HB := Lib.hid hb
  clear hno hb
  by_cases hlt : k < es.length
  ·obtain ⟨g, rfl, h0, h1⟩ := Hr.out k es[k] (List.getElem?_eq_getElem hlt)
   have c0 := (HB.out.cell (p := ⟨g, k * 2, none⟩) (World.block_lt_of_cell? _ _ h0)).trans h0
   have c1 := (HB.out.cell (p := ⟨g, k * 2 + 1, none⟩) (World.block_lt_of_cell? _ _ h1)).trans h1
   have hq := Hp.out es[k] (List.getElem_mem hlt) wr
   generalize hx : es[k] = x at *
   have Hx := Lib.hid hx
   clear h0 h1 hx
   have hw2 : x.val = .agg #[.int .i64 (x.st : Int), .int .i64 (x.size : Int)] := rfl
   rw [hw2] at hq
   clear hw2
   by_cases hpx : p x = true
   ·rw [hpx] at hq
    have hq := Lib.hid hq
    have Hhit : Hid (entFirst p es = k) := by
     have : es.findIdx? p = some k := by
      rw [List.findIdx?_eq_some_iff_getElem]
      exact ⟨hlt, by rw [Hx.out]; exact hpx, fun j hj => by simp [Hno.out j (by omega) hj]⟩
     simp [Hid, entFirst, this]
    clear hpx
    go_wp2_with fail
    refine hq.out.mono ?_
    rintro r w1 ⟨rfl, hb1⟩
    have HB1 := Lib.hid hb1
    clear hb1
    go_wp2
    go_ret
    exact ⟨by rw [Hhit.out]; rfl, HB.out.trans (HB1.out.mono HB.out.size)⟩
   ·have hpx : p x = false := by simpa using hpx
    rw [hpx] at hq
    have hq := Lib.hid hq
    have Hpx := Lib.hid hpx
    clear hpx
    go_wp2_with fail
    refine hq.out.mono ?_
    rintro r w1 ⟨rfl, hb1⟩
    have HB1 := Lib.hid hb1
    clear hb1
    go_wp2
    go_roundg (es.length - (k + 1))
    case measure => omega
    case rel =>
     refine ⟨k + 1, by omega, rfl, by go_num, HB.out.trans (HB1.out.mono HB.out.size), fun j h hj => ?_⟩
     by_cases hjk : j = k
     ·subst hjk; rw [Hx.out]; exact Hpx.out
     ·exact Hno.out j h (by omega)
  ·have e : entFirst p es = -1 := by
    have : es.findIdx? p = none := by
     rw [List.findIdx?_eq_none_iff]
     intro x hx
     obtain ⟨j, hj, rfl⟩ := List.getElem_of_mem hx
     exact Hno.out j hj (by omega)
    simp [entFirst, this]
   have He := Lib.hid e; clear e
   go_wp2
   go_ret
   exact ⟨by rw [He.out]; rfl, HB.out⟩
theorem ContainsFuncEnt (K : FuncId) (hK : May K) (p : Ent -> Bool) {w : World} {l : List Say} {v : Value} {es : List Ent} (h : Has w l) (hm : entS v es ∈ l) (hlen : es.length <= 8)
  (hp : ∀ e ∈ es, ∀ w1 : World, Calls Tryz.prog K #[e.val] w1 fun r w2 => r = .returned (.bool (p e)) /\ Below w1.heap.size w1 w2) :
  Calls Tryz.prog 175 #[v, .func (.func K) #[] #[]] w fun r w' => r = .returned (.bool (es.any p)) /\ Below w.heap.size w w' := by
 have H := Lib.hid (IndexFuncEnt K hK p h hm hlen hp)
 have He := Lib.hid (entFirst_any p es)
 clear h hm hlen hp
 go_enter Tryz.func175, Tryz.ntmps175
 go_wp2_with fail
 refine H.out.mono ?_
 rintro r w1 ⟨rfl, hb⟩
 have HB := Lib.hid hb
 clear hb
 go_wp2
 go_ret
 exact ⟨by rw [<- He.out]; rfl, HB.out⟩
structure OkEnts (es : List Ent) : Prop where
 len : es.length <= 8
 ok : ∀ e ∈ es, e.ok
theorem may_check1 : May 176 := ⟨Tryz.f176, Tryz.func176, by kernel_rfl, by kernel_rfl⟩
theorem ros_Check {w : World} {l : List Say} {v : Value} {es : List Ent} (h : Has w l) (hm : entS v es ∈ l) (hok : OkEnts es) :
  Calls Tryz.prog 118 #[.agg #[v]] w fun r w' => r = .returned .nilIface /\ Below w.heap.size w w' := by
 have HC := ContainsFuncEnt 176 may_check1 (fun _ => false) (w := w.alloc (.cells #[v] 58)) (h.alloc_off _) hm hok.len (fun e he w1 => ent_check1 e (hok.ok e he) w1)
 obtain ⟨a, c, rfl, hc, hr⟩ := h.ent_read hm
 have HC := Lib.hid HC
 have hl := hok.len
 have hany : es.any (fun _ => false) = false := by simp
 rw [hany] at HC
 have hd : decide ((8 : Int) < es.length) = false := by simp; omega
 have hd2 : decide ((es.length : Int) > 8) = false := by simp; omega
 clear hr h hm hok hany
 go_enter Tryz.func118, Tryz.ntmps118
 go_wp2_with fail
 refine HC.out.mono ?_
 rintro r w1 ⟨rfl, hb⟩
 have HB := Lib.hid hb
 clear hb
 go_wp2
 go_ret
 exact ⟨rfl, ((Below.refl _ _).alloc (Nat.le_refl _) _).trans (HB.out.mono (by simp))⟩
/-
  Rosters (layer 5), the second part: those, Actives; copies.
-/
def idxTo (p : Ent -> Bool) (es : List Ent) : Nat -> List Nat
 | 0 => []
 | k + 1 => idxTo p es k ++ match es[k]? with | some e => if p e then [k] else [] | none => []
theorem idxTo_len (p : Ent -> Bool) (es : List Ent) : ∀ k, (idxTo p es k).length <= k
 | 0 => Nat.le_refl _
 | k + 1 => by
  have := idxTo_len p es k
  rw [idxTo, List.length_append]
  cases es[k]? with
  | none => simp; omega
  | some e => by_cases h : p e = true <;> simp [h] <;> omega
def natVal (n : Nat) : Value := .int .i64 (n : Int)
def ThoseRel (p : Ent -> Bool) (es : List Ent) (l : List Say) (w : World) (gk : Nat) (o i : Value) (wr : World) : Prop :=
 ∃ k : Nat, k <= es.length /\ gk = es.length - k /\ i = .int .i64 k /\ Kept w wr /\ Has wr (rowS 3 1 o (idxTo p es k).length ((idxTo p es k).map natVal) :: l)
theorem info_int : (Tryz.prog.info? 3).map (fun i => (i.zero, i.size, i.bytes)) = some (some (.int .i64 0), 1, 8) := by kernel_rfl
def RowPost (w : World) (xs : List Nat) (l : List Say) (r : Ending) (w' : World) : Prop :=
 ∃ o, r = .returned o /\ Kept w w' /\ Has w' (rowS 3 1 o xs.length (xs.map natVal) :: l)
set_option maxRecDepth 100000 in
theorem ros_those (K : FuncId) (hK : May K) (p : Ent -> Bool) {w : World} {l : List Say} {v : Value} {es : List Ent} (h : Has w l) (hm : entS v es ∈ l) (hok : OkEnts es)
  (hp : ∀ e ∈ es, ∀ w1 : World, Calls Tryz.prog K #[e.val] w1 fun r w2 => r = .returned (.bool (p e)) /\ Below w1.heap.size w1 w2) :
  Calls Tryz.prog 147 #[.agg #[v], .func (.func K) #[] #[]] w (RowPost w (idxTo p es es.length) l) := by
 have hcall := fun (vs : Array Value) (w : World) => hK.run vs w
 obtain ⟨a, c, rfl, hc, hr⟩ := h.ent_read hm
 have hlen := hok.len
 have H1 := Lib.hid (h.alloc (.cells #[.slice a es.length c] 58))
 have Hp := Lib.hid hp
 have Hm := Lib.hid hm
 have Hok := Lib.hid hok
 clear hr hp h hm hok
 obtain ⟨i0, hi, hz0, hz1, hz2⟩ := info_parts info_int
 go_enter Tryz.func147, Tryz.ntmps147
 go_wp2
 go_loopg [5, 11] es.length (fun gk o i wr => ThoseRel p es (pts w.heap.size (.cells #[.slice a es.length c] 58) :: l) w gk o i wr)
 case atStart => exact ⟨0, Nat.zero_le _, rfl, rfl, (Kept.refl w).alloc _, H1.out.row_nil _ _⟩
 case round =>
  clear H1
  obtain ⟨k, hk, rfl, rfl, hkept, hh⟩ := hrel
  have HK := Lib.hid hkept
  have hbox : wr.cell? ⟨w.heap.size, 0, none⟩ = some (.slice a es.length c) := cell_of (hh.at (b := w.heap.size) (o := .cells #[.slice a es.length c] 58 (0, 0)) (by simp)) 0 rfl
  have hlt0 : w.heap.size < wr.heap.size := World.block_lt_of_cell? _ _ hbox
  by_cases hlt : k < es.length
  ·obtain ⟨a', c', hv, _, hr⟩ := hh.ent_read (v := .slice a es.length c) (es := es) (by simp [Hm.out])
   cases hv
   obtain ⟨g, rfl, c0, c1⟩ := hr k es[k] (List.getElem?_eq_getElem hlt)
   have hgl : g < wr.heap.size := World.block_lt_of_cell? _ _ c0
   have hmem : es[k] ∈ es := List.getElem_mem hlt
   have hstep : idxTo p es (k + 1) = idxTo p es k ++ if p es[k] then [k] else [] := by rw [idxTo, List.getElem?_eq_getElem hlt]
   have hil := idxTo_len p es k
   generalize hx : es[k] = x at *
   have Hx := Lib.hid hx
   have Hmem := Lib.hid hmem
   have Hstep := Lib.hid hstep
   have HH := Lib.hid hh
   clear hx hh hr hkept hmem hstep
   have hbox1 : ∀ o, (wr.alloc o).cell? ⟨w.heap.size, 0, none⟩ = some (.slice (some ⟨g, 0, none⟩) es.length c) := fun o => by rw [World.cell?_alloc_lt _ _ _ hlt0]; exact hbox
   have HC := Lib.hid (ros_Check (w := wr.alloc (.cells #[.int .i64 (x.st : Int), .int .i64 (x.size : Int)] 139)) (HH.out.alloc_off _) (.tail _ (.tail _ Hm.out)) Hok.out)
   have HF := Lib.hid (Hp.out x Hmem.out)
   have hxv : x.val = .agg #[.int .i64 (x.st : Int), .int .i64 (x.size : Int)] := rfl
   rw [hxv] at HF
   clear hxv
   have d0 : (wr.alloc (.cells #[.int .i64 (x.st : Int), .int .i64 (x.size : Int)] 139)).cell? ⟨wr.heap.size, 0, none⟩ = some (.int .i64 (x.st : Int)) := by simp
   have d1 : (wr.alloc (.cells #[.int .i64 (x.st : Int), .int .i64 (x.size : Int)] 139)).cell? ⟨wr.heap.size, 1, none⟩ = some (.int .i64 (x.size : Int)) := by simp
   have D0 := Lib.hid d0
   have D1 := Lib.hid d1
   clear d0 d1
   go_wp2_with fail
   refine HC.out.mono ?_
   rintro r w2 ⟨rfl, hb2⟩
   have d0 := (hb2.cell (p := ⟨wr.heap.size, 0, none⟩) (by simp)).trans D0.out
   have d1 := (hb2.cell (p := ⟨wr.heap.size, 1, none⟩) (by simp)).trans D1.out
   clear c0 c1
   have HB2 := Lib.hid hb2
   have hsz2 : wr.heap.size < w2.heap.size := by have := hb2.size; simp at this; omega
   clear hb2
   go_wp2_with fail
   refine (HF.out w2).mono ?_
   rintro r w3 ⟨rfl, hb3⟩
   have H3 : Hid (Has w3 (rowS 3 1 u5 (idxTo p es k).length ((idxTo p es k).map natVal) :: pts w.heap.size (.cells #[.slice (some ⟨g, 0, none⟩) es.length c] 58) :: l)) :=
    ((HH.out.alloc_off _).below HB2.out).below hb3
   have HK3 : Hid (Kept w w3) := (((HK.out.alloc _).trans (Kept.below HB2.out))).trans (Kept.below hb3)
   clear hb3 hbox hbox1
   by_cases hpx : p x = true
   ·rw [if_pos hpx] at Hstep
    go_wp2_with (at_builtin; go_loud (refine wpList_append_row (l := pts w.heap.size (.cells #[.slice (some ⟨g, 0, none⟩) es.length c] 58) :: l) rfl (.tmp 24) (.tmp 26) 22 rfl 3 i0 (.int .i64 0) 1 8 Tryz.underlying22 hi hz0 hz1 hz2 rfl (by decide) _ (idxTo p es k).length ((idxTo p es k).map natVal) rfl ?hown ⟨_, 0, none⟩ 1 1 [.int .i64 (k : Int)] rfl rfl ?hnews ?hone ?h63 ?hby ?next))
    case hown => exact H3.out.alloc_off _
    case hnews => exact one_new w3 _ _
    case hone => intro u hu; simp at hu; subst hu; rfl
    case h63 => simp [maxLen]; omega
    case hby => omega
    case next =>
     intro v2 w4 hK4 h4
     have HK4 := Lib.hid hK4
     have H4 := Lib.hid h4
     clear hK4 h4
     go_wp2
     go_roundg (es.length - (k + 1))
     case measure => omega
     case rel =>
      refine ⟨k + 1, by omega, rfl, by go_num, (HK3.out.alloc _).trans HK4.out, ?_⟩
      rw [Hstep.out]
      simpa [natVal] using H4.out
   ·rw [if_neg hpx] at Hstep
    have hpf : p x = false := by simpa using hpx
    clear hpx
    go_wp2
    go_roundg (es.length - (k + 1))
    case measure => omega
    case rel =>
     refine ⟨k + 1, by omega, rfl, by go_num, HK3.out, ?_⟩
     rw [Hstep.out, List.append_nil]
     exact H3.out
  ·obtain rfl : k = es.length := by omega
   have HH := Lib.hid hh
   clear hh hkept
   go_wp2
   go_ret
   exact ⟨_, rfl, HK.out, HH.out.swap.tail⟩
/-
  Copies of rows: slices.Clone, bytes.Clone; the entries of a roster that are Active.
-/
def ClonePost (w : World) (e size n : Nat) (news : List Value) (l : List Say) (r : Ending) (w' : World) : Prop :=
 ∃ v, r = .returned v /\ Kept w w' /\ Has w' (rowS e size v n news :: l)
theorem info_ent : (Tryz.prog.info? 139).map (fun i => (i.zero, i.size, i.bytes)) = some (some (.agg #[.int .i64 0, .int .i64 0]), 2, 16) := by kernel_rfl
theorem info_u8 : (Tryz.prog.info? 5).map (fun i => (i.zero, i.size, i.bytes)) = some (some (.int .u8 0), 1, 1) := by kernel_rfl
theorem clone_int {w : World} {l : List Say} (h : Has w l) (b off n c : Nat) (news : List Value) (hl : news.length = n * 1) (hc : ∀ j u, news[j]? = some u -> w.cell? ⟨b, off + j, none⟩ = some u) (h1 : ∀ u ∈ news, u.oneCell' = true)
  (hn : n <= maxLen) (hby : n * 8 <= 140737488355328) :
  Calls Tryz.prog 146 #[.slice (some ⟨b, off, none⟩) n c] w (ClonePost w 3 1 n news l) := by
 obtain ⟨i0, I1, I2, I3, I4⟩ := info_parts info_int
 have heq := fun (w : World) => Lib.run_eql_slice_nil (P := Tryz.prog) w 22 3 (some ⟨b, off, none⟩) n c 0 0 Tryz.underlying22
 have hrow : Has (w.alloc (.cells #[] 3 (0, 0))) (rowS 3 1 (.slice (some ⟨w.heap.size, 0, none⟩) 0 0) 0 [] :: l) :=
  (h.alloc (.cells #[] 3 (0, 0))).row_of_pts (by simp) (Nat.le_refl _) (by simp [maxLen]) (by simp) (by simp)
 have HR := Lib.hid hrow
 have HC : Hid (∀ j u, news[j]? = some u -> (w.alloc (.cells #[] 3 (0, 0))).cell? ((⟨b, off, none⟩ : Addr).add j) = some u) := fun j u hu => by
  rw [Addr.add_lit, World.cell?_alloc_lt _ _ _ (World.block_lt_of_cell? _ _ (hc j u hu))]
  exact hc j u hu
 have HL := Lib.hid hl
 have H1 := Lib.hid h1
 clear hrow hc h hl h1
 go_enter Tryz.func146, Tryz.ntmps146
 go_wp2_with (at_builtin; refine wpList_append_row (l := l) rfl (.tmp 5) (.tmp 6) 22 rfl 3 i0 (.int .i64 0) 1 8 Tryz.underlying22 I1 I2 I3 I4 rfl (by decide) (.slice (some ⟨w.heap.size, 0, none⟩) 0 0) 0 [] rfl ?hown ⟨b, off, none⟩ n c news rfl ?hl ?hnews ?hone ?h63 ?hby ?next)
 case hown => exact HR.out
 case hl => exact HL.out
 case hnews => exact HC.out
 case hone => exact H1.out
 case h63 => omega
 case hby => omega
 case next =>
  intro v2 w2 hK2 h2
  have HK2 := Lib.hid hK2
  have H2 := Lib.hid h2
  clear hK2 h2
  go_wp2
  go_ret
  exact ⟨v2, rfl, ((Kept.refl w).alloc _).trans HK2.out, by simpa using H2.out⟩
theorem clone_u8 {w : World} {l : List Say} (h : Has w l) (b off n c : Nat) (news : List Value) (hl : news.length = n * 1) (hc : ∀ j u, news[j]? = some u -> w.cell? ⟨b, off + j, none⟩ = some u) (h1 : ∀ u ∈ news, u.oneCell' = true)
  (hn : n <= maxLen) (hby : n * 1 <= 140737488355328) :
  Calls Tryz.prog 191 #[.slice (some ⟨b, off, none⟩) n c] w (ClonePost w 5 1 n news l) := by
 obtain ⟨i0, I1, I2, I3, I4⟩ := info_parts info_u8
 have heq := fun (w : World) => Lib.run_eql_slice_nil (P := Tryz.prog) w 141 5 (some ⟨b, off, none⟩) n c 0 0 Tryz.underlying141
 have hrow : Has (w.alloc (.cells #[] 5 (0, 0))) (rowS 5 1 (.slice (some ⟨w.heap.size, 0, none⟩) 0 0) 0 [] :: l) :=
  (h.alloc (.cells #[] 5 (0, 0))).row_of_pts (by simp) (Nat.le_refl _) (by simp [maxLen]) (by simp) (by simp)
 have HR := Lib.hid hrow
 have HC : Hid (∀ j u, news[j]? = some u -> (w.alloc (.cells #[] 5 (0, 0))).cell? ((⟨b, off, none⟩ : Addr).add j) = some u) := fun j u hu => by
  rw [Addr.add_lit, World.cell?_alloc_lt _ _ _ (World.block_lt_of_cell? _ _ (hc j u hu))]
  exact hc j u hu
 have HL := Lib.hid hl
 have H1 := Lib.hid h1
 clear hrow hc h hl h1
 go_enter Tryz.func191, Tryz.ntmps191
 go_wp2_with (at_builtin; refine wpList_append_row (l := l) rfl (.tmp 5) (.tmp 6) 141 rfl 5 i0 (.int .u8 0) 1 1 Tryz.underlying141 I1 I2 I3 I4 rfl (by decide) (.slice (some ⟨w.heap.size, 0, none⟩) 0 0) 0 [] rfl ?hown ⟨b, off, none⟩ n c news rfl ?hl ?hnews ?hone ?h63 ?hby ?next)
 case hown => exact HR.out
 case hl => exact HL.out
 case hnews => exact HC.out
 case hone => exact H1.out
 case h63 => omega
 case hby => omega
 case next =>
  intro v2 w2 hK2 h2
  have HK2 := Lib.hid hK2
  have H2 := Lib.hid h2
  clear hK2 h2
  go_wp2
  go_ret
  exact ⟨v2, rfl, ((Kept.refl w).alloc _).trans HK2.out, by simpa using H2.out⟩
theorem clone_ent {w : World} {l : List Say} (h : Has w l) (b off n c : Nat) (news : List Value) (hl : news.length = n * 2) (hc : ∀ j u, news[j]? = some u -> w.cell? ⟨b, off + j, none⟩ = some u) (h1 : ∀ u ∈ news, u.oneCell' = true)
  (hn : n <= maxLen) (hby : n * 16 <= 140737488355328) :
  Calls Tryz.prog 155 #[.slice (some ⟨b, off, none⟩) n c] w (ClonePost w 139 2 n news l) := by
 obtain ⟨i0, I1, I2, I3, I4⟩ := info_parts info_ent
 have heq := fun (w : World) => Lib.run_eql_slice_nil (P := Tryz.prog) w 56 139 (some ⟨b, off, none⟩) n c 0 0 Tryz.underlying56
 have hrow : Has (w.alloc (.cells #[] 139 (0, 0))) (rowS 139 2 (.slice (some ⟨w.heap.size, 0, none⟩) 0 0) 0 [] :: l) :=
  (h.alloc (.cells #[] 139 (0, 0))).row_of_pts (by simp) (Nat.le_refl _) (by simp [maxLen]) (by simp) (by simp)
 have HR := Lib.hid hrow
 have HC : Hid (∀ j u, news[j]? = some u -> (w.alloc (.cells #[] 139 (0, 0))).cell? ((⟨b, off, none⟩ : Addr).add j) = some u) := fun j u hu => by
  rw [Addr.add_lit, World.cell?_alloc_lt _ _ _ (World.block_lt_of_cell? _ _ (hc j u hu))]
  exact hc j u hu
 have HL := Lib.hid hl
 have H1 := Lib.hid h1
 clear hrow hc h hl h1
 go_enter Tryz.func155, Tryz.ntmps155
 go_wp2_with (at_builtin; refine wpList_append_row (l := l) rfl (.tmp 5) (.tmp 6) 56 rfl 139 i0 (.agg #[.int .i64 0, .int .i64 0]) 2 16 Tryz.underlying56 I1 I2 I3 I4 rfl (by decide) (.slice (some ⟨w.heap.size, 0, none⟩) 0 0) 0 [] rfl ?hown ⟨b, off, none⟩ n c news rfl ?hl ?hnews ?hone ?h63 ?hby ?next)
 case hown => exact HR.out
 case hl => exact HL.out
 case hnews => exact HC.out
 case hone => exact H1.out
 case h63 => omega
 case hby => omega
 case next =>
  intro v2 w2 hK2 h2
  have HK2 := Lib.hid hK2
  have H2 := Lib.hid h2
  clear hK2 h2
  go_wp2
  go_ret
  exact ⟨v2, rfl, ((Kept.refl w).alloc _).trans HK2.out, by simpa using H2.out⟩
theorem may_active1 : May 148 := ⟨Tryz.f148, Tryz.func148, by kernel_rfl, by kernel_rfl⟩
def actives (es : List Ent) : List Nat := idxTo (fun e => e.st == 1) es es.length
theorem ros_Actives {w : World} {l : List Say} {v : Value} {es : List Ent} (h : Has w l) (hm : entS v es ∈ l) (hok : OkEnts es) :
  Calls Tryz.prog 84 #[.agg #[v]] w (RowPost w (actives es) l) := by
 have H := Lib.hid (ros_those 148 may_active1 (fun e => e.st == 1) (w := w.alloc (.cells #[v] 58)) (h.alloc_off _) hm hok (fun e he w1 => ent_active1 e w1))
 obtain ⟨a, c, rfl, hc, hr⟩ := h.ent_read hm
 clear hr h hm hok
 go_enter Tryz.func84, Tryz.ntmps84
 go_wp2_with fail
 refine H.out.mono ?_
 rintro r w1 ⟨o, rfl, hK, h1⟩
 have HK := Lib.hid hK
 have H1 := Lib.hid h1
 clear hK h1
 go_wp2
 go_ret
 exact ⟨o, rfl, ((Kept.refl w).alloc _).trans HK.out, H1.out⟩
def EntPost (w : World) (es : List Ent) (l : List Say) (r : Ending) (w' : World) : Prop :=
 ∃ v, r = .returned (.agg #[v]) /\ Kept w w' /\ Has w' (entS v es :: l)
theorem ent_one (es : List Ent) : ∀ u ∈ es.flatMap Ent.cells, u.oneCell' = true := by
 intro u hu
 obtain ⟨e, _, he⟩ := List.mem_flatMap.1 hu
 simp [Ent.cells] at he
 rcases he with rfl | rfl <;> rfl
theorem Has.ent_cells {w : World} {l : List Say} {v : Value} {es : List Ent} (h : Has w l) (hm : entS v es ∈ l) (hne : es ≠ []) :
  ∃ g c, v = .slice (some ⟨g, 0, none⟩) es.length c /\ ∀ j u, (es.flatMap Ent.cells)[j]? = some u -> w.cell? ⟨g, 0 + j, none⟩ = some u := by
 obtain ⟨h1, h2⟩ := h.row_own hm
 rcases h2 with ⟨rfl, h0⟩ | ⟨g, cap, cur, rfl, _, hg, hn, hc, hs, ht⟩
 ·exact absurd (List.eq_nil_of_length_eq_zero h0) hne
 ·refine ⟨g, cap, rfl, fun j u hu => ?_⟩
  rw [Nat.zero_add]
  refine cell_of hg j ?_
  rw [<- ht, List.getElem?_take] at hu
  split at hu
  ·simpa using hu
  ·cases hu
theorem space_copied {w : World} {l : List Say} {v : Value} {es : List Ent} (h : Has w l) (hm : entS v es ∈ l) (hok : OkEnts es) (hne : es ≠ []) :
  Calls Tryz.prog 91 #[.agg #[v]] w (EntPost w es l) := by
 have hl := hok.len
 obtain ⟨g, c, rfl, hc⟩ := h.ent_cells hm hne
 obtain ⟨W, hW⟩ : ∃ W, W = (w.alloc (.cells #[.slice (some ⟨g, 0, none⟩) es.length c] 58)).alloc (.cells #[.slice none 0 0] 58) := ⟨_, rfl⟩
 have hWc : ∀ j u, (es.flatMap Ent.cells)[j]? = some u -> W.cell? ⟨g, 0 + j, none⟩ = some u := fun j u hu => by
  have hlt := World.block_lt_of_cell? _ _ (hc j u hu)
  have hlt : g < w.heap.size := hlt
  rw [hW, World.cell?_alloc_lt _ _ _ (by simp; omega), World.cell?_alloc_lt _ _ _ hlt]
  exact hc j u hu
 have hWh : Has W (pts (w.heap.size + 1) (.cells #[.slice none 0 0] 58) :: l) := by
  rw [hW]
  have := (h.alloc_off (.cells #[.slice (some ⟨g, 0, none⟩) es.length c] 58)).alloc (.cells #[.slice none 0 0] 58)
  simpa using this
 have HC := Lib.hid (clone_ent hWh g 0 es.length c (es.flatMap Ent.cells) (flat_len es) hWc (ent_one es) (by simp [maxLen]; omega) (by omega))
 have HK : Hid (Kept w W) := by rw [hW]; exact ((Kept.refl w).alloc _).alloc _
 clear hWh hWc hc h hm hok
 go_enter Tryz.func91, Tryz.ntmps91
 go_wp2_with fail
 rw [<- hW]
 refine HC.out.mono ?_
 rintro r w1 ⟨v1, rfl, hK, h1⟩
 have hp := h1.swap.got
 have f1 := thaw_of hp 0
 have c1 : w1.cell? ⟨w.heap.size + 1, 0, none⟩ = some (.slice none 0 0) := cell_of hp 0 rfl
 obtain ⟨a1, k1, rfl, _⟩ := h1.row_val (v := v1) (.head _)
 have H2 := Lib.hid (h1.swap.setCell 0 (.slice a1 es.length k1))
 have HK1 := Lib.hid hK
 have hz : w.heap.size + 1 < w1.heap.size := World.block_lt_of_cell? _ _ c1
 clear h1 hK hp
 go_wp2
 refine bodyPost_ret (v := .agg #[.slice a1 es.length k1]) (by simp [results, Tryz.results91, go_sem, c1]) rfl ⟨.slice a1 es.length k1, rfl, (HK.out.trans HK1.out).setCell _ _, ?_⟩
 exact H2.out.tail
end Go.Proofs.YtgbgneiciabidaaGreatDoor
/-
  A map from numbers to pages: what it holds, as a list by rising keys; looking up, storing, deleting.
-/
namespace Go.Proofs.YtgbgneiciabidaaGreatDoor
open Go Go.RowKit Go.ChangeMaps Go.Maps
open Go.WideElems (Fit rd rg pl)
set_option linter.all false
set_option maxHeartbeats 8000000
def VMap.ins {α : Type} (x : Int × α) : List (Int × α) -> List (Int × α)
 | [] => [x]
 | y :: r => if x.1 < y.1 then x :: y :: r else y :: VMap.ins x r
def VMap.del {α : Type} (a : Int) (M : List (Int × α)) : List (Int × α) := M.filter fun p => !(p.1 == a)
def VMap.put {α : Type} (a : Int) (v : α) (M : List (Int × α)) : List (Int × α) := VMap.ins (a, v) (VMap.del a M)
def VMap.get {α : Type} (a : Int) (M : List (Int × α)) : Option α := (M.find? fun p => p.1 == a).map (·.2)
abbrev VMap := List (Int × Value)
def VMap.over {α β : Type} (f : α -> β) (M : List (Int × α)) : List (Int × β) := M.map fun p => (p.1, f p.2)
theorem VMap.over_ins {α β : Type} (f : α -> β) (x : Int × α) : ∀ M : List (Int × α), VMap.over f (VMap.ins x M) = VMap.ins (x.1, f x.2) (VMap.over f M)
 | [] => rfl
 | y :: r => by
  unfold VMap.ins
  simp only [VMap.over, List.map_cons, VMap.ins]
  by_cases h : x.1 < y.1
  ·rw [if_pos h, if_pos h]; rfl
  ·rw [if_neg h, if_neg h, List.map_cons]; exact congrArg _ (VMap.over_ins f x r)
theorem VMap.over_del {α β : Type} (f : α -> β) (a : Int) (M : List (Int × α)) : VMap.over f (VMap.del a M) = VMap.del a (VMap.over f M) := by
 unfold VMap.del VMap.over
 rw [List.filter_map]; rfl
theorem VMap.over_put {α β : Type} (f : α -> β) (a : Int) (v : α) (M : List (Int × α)) : VMap.over f (VMap.put a v M) = VMap.put a (f v) (VMap.over f M) := by
 rw [VMap.put, VMap.over_ins, VMap.over_del]; rfl
theorem VMap.get_over {α β : Type} (f : α -> β) (a : Int) (M : List (Int × α)) : VMap.get a (VMap.over f M) = (VMap.get a M).map f := by
 unfold VMap.get VMap.over
 rw [List.find?_map]
 have e : (fun p : Int × β => p.1 == a) ∘ (fun p : Int × α => (p.1, f p.2)) = fun p => p.1 == a := rfl
 rw [e]
 cases M.find? (fun p => p.1 == a) <;> rfl
theorem VMap.ins_perm {α : Type} (x : Int × α) : ∀ M : List (Int × α), (VMap.ins x M).Perm (x :: M)
 | [] => .refl _
 | y :: r => by
  unfold VMap.ins
  split
  ·exact .refl _
  ·exact ((VMap.ins_perm x r).cons y).trans (.swap _ _ _)
def VMap.Up {α : Type} (M : List (Int × α)) : Prop := M.Pairwise fun p q => p.1 < q.1
theorem VMap.Up.ins {α : Type} {x : Int × α} : ∀ {M : List (Int × α)}, VMap.Up M -> (∀ p ∈ M, p.1 ≠ x.1) -> VMap.Up (VMap.ins x M)
 | [], _, _ => by simp [VMap.ins, VMap.Up]
 | y :: r, h, hx => by
  unfold VMap.ins
  obtain ⟨h1, h2⟩ := List.pairwise_cons.1 h
  have hy := hx y (by simp)
  split
  ·rename_i hlt
   refine List.pairwise_cons.2 ⟨fun p hp => ?_, h⟩
   rcases List.mem_cons.1 hp with rfl | hp
   ·exact hlt
   ·have := h1 p hp; omega
  ·rename_i hlt
   refine List.pairwise_cons.2 ⟨fun p hp => ?_, VMap.Up.ins h2 fun p hp => hx p (by simp [hp])⟩
   rcases List.mem_cons.1 ((VMap.ins_perm x r).mem_iff.1 hp) with rfl | hp
   ·omega
   ·exact h1 p hp
theorem VMap.Up.del {α : Type} {M : List (Int × α)} (h : VMap.Up M) (a : Int) : VMap.Up (VMap.del a M) := List.Pairwise.filter _ h
theorem VMap.Up.put {α : Type} {M : List (Int × α)} (h : VMap.Up M) (a : Int) (v : α) : VMap.Up (VMap.put a v M) :=
 (h.del a).ins fun p hp => by
  have := (List.mem_filter.1 hp).2
  simpa using this
theorem VMap.get_split {α : Type} {a : Int} {v : α} : ∀ {M : List (Int × α)}, VMap.Up M -> VMap.get a M = some v -> M.Perm ((a, v) :: VMap.del a M)
 | [], _, h => by simp [VMap.get] at h
 | y :: r, h, hg => by
  obtain ⟨h1, h2⟩ := List.pairwise_cons.1 h
  by_cases e : y.1 = a
  ·have hv : y.2 = v := by simpa [VMap.get, e] using hg
   have hr : VMap.del a (y :: r) = r := by
    unfold VMap.del
    rw [List.filter_cons_of_neg (by simp [e])]
    exact List.filter_eq_self.2 fun p hp => by have := h1 p hp; simp; omega
   rw [hr, <- e, <- hv]
  ·have hg' : VMap.get a r = some v := by simpa [VMap.get, e] using hg
   have hr : VMap.del a (y :: r) = y :: VMap.del a r := by
    unfold VMap.del
    rw [List.filter_cons_of_pos (by simp [e])]
   rw [hr]
   exact ((VMap.get_split h2 hg').cons y).trans (.swap _ _ _)
def litE (p : Int × Value) : Lit × DataW Value := (.int .i64 p.1, .held p.2)
def heldR (v : Value) : Option (DataW Value × List MemPlace) := some (.held v, [])
theorem litE_ins (x : Int × Value) : ∀ M : VMap, (VMap.ins x M).map litE = DataW.insert (litE x) (M.map litE)
 | [] => rfl
 | y :: r => by
  unfold VMap.ins
  simp only [List.map_cons, DataW.insert]
  by_cases h : x.1 < y.1
  ·rw [if_pos h, if_pos (by simp [litE, Lit.before, h])]; rfl
  ·rw [if_neg h, if_neg (by simp [litE, Lit.before]; omega), List.map_cons, litE_ins x r]
theorem litE_del (a : Int) (M : VMap) : (VMap.del a M).map litE = (M.map litE).filter (notKey (.int .i64 a)) := by
 unfold VMap.del
 rw [List.filter_map]
 congr 1
 apply List.filter_congr
 intro p _
 simp only [notKey, litE, Lit.sameKey, Function.comp]
 congr 1
 rw [Bool.eq_iff_iff]; simp
theorem litE_put (a : Int) (v : Value) (M : VMap) : (VMap.put a v M).map litE = putKey (.int .i64 a) (.held v) (M.map litE) := by
 rw [VMap.put, litE_ins, litE_del]; rfl
theorem atKey_lit (a : Int) (M : VMap) (z : DataW Value) : (DataW.map (M.map litE)).atKey (.int .i64 a) z = match VMap.get a M with | some v => .held v | none => z := by
 simp only [DataW.atKey, VMap.get, List.find?_map]
 have e : (fun p : Lit × DataW Value => p.1.sameKey (.int .i64 a)) ∘ litE = fun p => p.1 == a := by
  funext p
  simp [litE, Lit.sameKey, Function.comp]
  rw [Bool.eq_iff_iff]; simp
 rw [e]
 cases M.find? (fun p => p.1 == a) <;> rfl
def mapS (b n : Nat) (M : VMap) : Say := fun h => ∃ es clock, h b = some (.map es clock) /\ Fit Tryz.prog 3 heldR es clock /\ es.size <= n /\ M.map litE = (es.toList.map (rg Tryz.prog 3 heldR)).foldr DataW.insert []
theorem Has.map_open {w : World} {l : List Say} {b n : Nat} {M : VMap} (h : Has w (mapS b n M :: l)) :
  ∃ es clock, Fit Tryz.prog 3 heldR es clock /\ es.size <= n /\ M.map litE = (es.toList.map (rg Tryz.prog 3 heldR)).foldr DataW.insert [] /\ Has w (pts b (.map es clock) :: l) := by
 obtain ⟨h1, h2, ⟨es, clock, hb, F, hs, hD⟩, hl, d1, d2⟩ := h
 exact ⟨es, clock, F, hs, hD, h1, h2, hb, hl, d1, d2⟩
theorem Has.map_own {w : World} {l : List Say} {b n : Nat} {M : VMap} (h : Has w l) (hm : mapS b n M ∈ l) : w.ownsMap Tryz.prog 3 heldR b n (.map (M.map litE)) := by
 obtain ⟨g, ⟨es, clock, hb, F, hs, hD⟩, hk⟩ := h.mem hm
 exact ⟨es, clock, by rw [hk b (by rw [hb]; simp), hb], F, hs, by rw [hD]⟩
theorem map_made {w : World} {l : List Say} (h : Has w l) : Has (w.alloc (.map #[] 0)) (mapS w.heap.size 0 [] :: l) :=
 (h.alloc (.map #[] 0)).head fun _ ha => by
  obtain ⟨es, clock, hb, F, hs, hD⟩ := World.ownsMap_made w Tryz.prog 3 heldR
  have e : (w.alloc (.map #[] 0)).heap[w.heap.size]? = some (.map #[] 0) := by show (w.heap.push _)[w.heap.size]? = _; simp
  rw [e] at hb
  cases hb
  exact ⟨_, _, ha, F, hs, by simpa using hD⟩
theorem int64_wf {a : Int} (h0 : -9223372036854775808 <= a) (h1 : a <= 9223372036854775807) : (Lit.int .i64 a).wf = true := by
 simp [Lit.wf]
 exact ⟨by show (-9223372036854775808 : Int) <= a; exact h0, h1⟩
theorem map_key (a : Int) (h0 : -9223372036854775808 <= a) (h1 : a <= 9223372036854775807) : keyOf Tryz.prog 3 (.int .i64 a) = some (.int .i64 a) := keyOf_int_mk Tryz.underlying3 (int64_wf h0 h1)
def pageZero : Value := .agg #[.int .i64 0, .slice none 0 0, .slice none 0 0, .int .i64 0, .int .i64 0]
theorem info_page : (Tryz.prog.info? 153).map (fun i => (i.zero, i.size, i.bytes)) = some (some (.agg #[.int .i64 0, .slice none 0 0, .slice none 0 0, .int .i64 0, .int .i64 0]), 5, 72) := by kernel_rfl
theorem page_zero (w : World) : (zeroValue 153).run Tryz.prog w = .ok pageZero w := by
 obtain ⟨i0, I1, I2, I3, I4⟩ := info_parts info_page
 simp [zeroValue, typeInfo, I1, I2, pageZero, go_sem]
theorem map_look {w : World} {l : List Say} {b n : Nat} {M : VMap} (h : Has w l) (hm : mapS b n M ∈ l) (a : Int) (h0 : -9223372036854775808 <= a) (h1 : a <= 9223372036854775807) :
  (Instr.lookup 145 (.map (some b)) (.int .i64 a) false).run Tryz.prog w = .ok ((VMap.get a M).getD pageZero) w := by
 obtain ⟨es, clock, hb, F, hs, hD⟩ := h.map_own hm
 have hD' : M.map litE = (es.toList.map (rg Tryz.prog 3 heldR)).foldr DataW.insert [] := by injection hD
 rcases Maps.fit_look false (int_keyed Tryz.underlying3) Tryz.underlying145 (page_zero w) hb F (map_key a h0 h1) with ⟨hrun, _, hat⟩ | ⟨e0, y, _, _, hrun, hRv, hat, _⟩
 ·rw [hrun]
  have := hat (.held .nilIface)
  have h2 := hat .nil
  rw [<- hD', atKey_lit] at h2
  cases hg : VMap.get a M with
  | none => rfl
  | some v => rw [hg] at h2; cases h2
 ·rw [hrun]
  have h2 := hat .nil
  rw [<- hD', atKey_lit] at h2
  cases hRv
  cases hg : VMap.get a M with
  | none => rw [hg] at h2; cases h2
  | some v => rw [hg] at h2; cases h2; rfl
theorem map_look_ok {w : World} {l : List Say} {b n : Nat} {M : VMap} (h : Has w l) (hm : mapS b n M ∈ l) (a : Int) (h0 : -9223372036854775808 <= a) (h1 : a <= 9223372036854775807) :
  (Instr.lookup 145 (.map (some b)) (.int .i64 a) true).run Tryz.prog w = .ok (.tuple #[(VMap.get a M).getD pageZero, .bool (VMap.get a M).isSome]) w := by
 obtain ⟨es, clock, hb, F, hs, hD⟩ := h.map_own hm
 have hD' : M.map litE = (es.toList.map (rg Tryz.prog 3 heldR)).foldr DataW.insert [] := by injection hD
 rcases Maps.fit_look true (int_keyed Tryz.underlying3) Tryz.underlying145 (page_zero w) hb F (map_key a h0 h1) with ⟨hrun, _, hat⟩ | ⟨e0, y, _, _, hrun, hRv, hat, _⟩
 ·rw [hrun]
  have h2 := hat .nil
  rw [<- hD', atKey_lit] at h2
  cases hg : VMap.get a M with
  | none => rfl
  | some v => rw [hg] at h2; cases h2
 ·rw [hrun]
  have h2 := hat .nil
  rw [<- hD', atKey_lit] at h2
  cases hRv
  cases hg : VMap.get a M with
  | none => rw [hg] at h2; cases h2
  | some v => rw [hg] at h2; cases h2; rfl
theorem map_store {w : World} {l : List Say} {b n : Nat} {M : VMap} (h : Has w (mapS b n M :: l)) (hn : n < maxLen) (a : Int) (h0 : -9223372036854775808 <= a) (h1 : a <= 9223372036854775807) (v : Value) :
  ∃ w', (Instr.mapUpdate 145 (.map (some b)) (.int .i64 a) v).run Tryz.prog w = .ok () w' /\ Kept w w' /\ Has w' (mapS b (n + 1) (VMap.put a v M) :: l) := by
 obtain ⟨es, clock, F, hs, hD, hh⟩ := h.map_open
 obtain ⟨es', clock', hrun, F', hput, _⟩ := Maps.fit_store (R' := heldR) (int_keyed Tryz.underlying3) Tryz.underlying145 hh.got F (Nat.lt_of_le_of_lt hs hn) (fun _ _ _ _ hz => hz) (map_key a h0 h1) (val := v) rfl
 refine ⟨_, hrun, ⟨rfl, rfl, rfl, by simp [setBlock]⟩, ?_⟩
 have h2 : Has (setBlock w b (.map es' clock')) (pts b (.map es' clock') :: l) := Sep.put hh (heap_setBlock_same hh.got _) fun k hk => heap_setBlock_other hh.got _ hk
 refine h2.head fun g hg => ⟨es', clock', hg, F', ?_, ?_⟩
 ·have e1 : es'.size = ((es'.toList.map (rg Tryz.prog 3 heldR)).foldr DataW.insert []).length := by rw [length_sorted]; simp
  rw [e1, hput]
  unfold putKey
  rw [length_insert]
  have e2 := List.length_filter_le (notKey (.int .i64 a)) ((es.toList.map (rg Tryz.prog 3 heldR)).foldr DataW.insert [])
  rw [length_sorted] at e2
  simp at e2
  omega
 ·rw [litE_put, hput, hD]
theorem map_drop {w : World} {l : List Say} {b n : Nat} {M : VMap} (h : Has w (mapS b n M :: l)) (a : Int) (h0 : -9223372036854775808 <= a) (h1 : a <= 9223372036854775807) (ty : TypeId) :
  ∃ w', (Builtin.delete_ #[145, 3] ty #[.map (some b), .int .i64 a]).run Tryz.prog w = .ok (.tuple #[]) w' /\ Kept w w' /\ Has w' (mapS b n (VMap.del a M) :: l) := by
 obtain ⟨es, clock, F, hs, hD, hh⟩ := h.map_open
 obtain ⟨es', hrun, F', hsz, hdel, _⟩ := Maps.fit_drop (ty := ty) (int_keyed Tryz.underlying3) Tryz.underlying145 hh.got F (map_key a h0 h1)
 refine ⟨_, hrun, ⟨rfl, rfl, rfl, by simp [setBlock]⟩, ?_⟩
 have h2 : Has (setBlock w b (.map es' clock)) (pts b (.map es' clock) :: l) := Sep.put hh (heap_setBlock_same hh.got _) fun k hk => heap_setBlock_other hh.got _ hk
 exact h2.head fun g hg => ⟨es', clock, hg, F', by omega, by rw [litE_del, hdel, hD]; rfl⟩
end Go.Proofs.YtgbgneiciabidaaGreatDoor
