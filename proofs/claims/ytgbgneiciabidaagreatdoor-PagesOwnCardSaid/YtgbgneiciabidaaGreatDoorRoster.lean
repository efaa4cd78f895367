/-
  Rosters (layer 5): right entries, which are Active.
-/
import Derived.Test.YtgbgneiciabidaaGreatDoorFn
import Derived.Deep.LoopGhost
namespace Go.Proofs.YtgbgneiciabidaaGreatDoor
open Go Go.RowKit
set_option linter.unusedVariables false
set_option linter.unusedSimpArgs false

/-- An entry of a roster. -/
structure Ent where
  st : Nat
  size : Nat
  deriving DecidableEq
def Ent.val (e : Ent) : Value := .agg #[.int .i64 (e.st : Int), .int .i64 (e.size : Int)]
def Ent.cells (e : Ent) : List Value := [.int .i64 (e.st : Int), .int .i64 (e.size : Int)]
/-- A right one. -/
def Ent.ok (e : Ent) : Prop := e.size ≤ 4096 ∧ ((e.st = 1 ∨ e.st = 2) ∧ 2 < e.size ∨ e.st = 3)
/-- A row of entries. -/
def entS (v : Value) (es : List Ent) : Say := rowS 139 2 v es.length (es.flatMap Ent.cells)

theorem flat_at (es : List Ent) : ∀ (k : Nat) (e : Ent), es[k]? = some e → (es.flatMap Ent.cells)[k * 2]? = some (.int .i64 (e.st : Int)) ∧ (es.flatMap Ent.cells)[k * 2 + 1]? = some (.int .i64 (e.size : Int)) := by
  induction es with
  | nil => intro k e h; simp at h
  | cons x es ih =>
    intro k e h
    cases k with
    | zero => simp at h; subst h; simp [Ent.cells]
    | succ k =>
      have := ih k e (by simpa using h)
      rw [show (k + 1) * 2 = k * 2 + 2 by omega]
      simpa [Ent.cells, List.flatMap_cons] using this
theorem flat_len (es : List Ent) : (es.flatMap Ent.cells).length = es.length * 2 := by
  induction es with
  | nil => rfl
  | cons x es ih => rw [List.flatMap_cons, List.length_append, ih]; simp [Ent.cells]; omega

/-- What whoever reads a row of entries finds. -/
theorem Has.ent_read {w : World} {l : List Say} {v : Value} {es : List Ent} (h : Has w l) (hm : entS v es ∈ l) :
    ∃ a c, v = .slice a es.length c ∧ es.length ≤ c ∧ ∀ k e, es[k]? = some e → ∃ g, a = some ⟨g, 0, none⟩ ∧ w.cell? ⟨g, k * 2, none⟩ = some (.int .i64 (e.st : Int)) ∧ w.cell? ⟨g, k * 2 + 1, none⟩ = some (.int .i64 (e.size : Int)) := by
  obtain ⟨h1, h2⟩ := h.row_own hm
  rcases h2 with ⟨rfl, h0⟩ | ⟨g, cap, cur, rfl, _, hg, hn, hc, hs, ht⟩
  · refine ⟨none, 0, by rw [h0], by omega, fun k e he => ?_⟩
    have := (List.getElem?_eq_some_iff.1 he).1
    omega
  · refine ⟨_, cap, rfl, hn, fun k e he => ?_⟩
    obtain ⟨e1, e2⟩ := flat_at es k e he
    have hk := (List.getElem?_eq_some_iff.1 he).1
    rw [← ht, List.getElem?_take_of_lt (by omega)] at e1 e2
    exact ⟨g, rfl, cell_of hg _ (by simpa using e1), cell_of hg _ (by simpa using e2)⟩

theorem bcell {w W : World} (hb : Below W.heap.size W w) : (∀ b o, b < W.heap.size → w.cell? ⟨b, o, none⟩ = W.cell? ⟨b, o, none⟩) ∧ (∀ b o, b < W.heap.size → w.frozen? ⟨b, o, none⟩ = W.frozen? ⟨b, o, none⟩) :=
  ⟨fun b o h => hb.cell (p := ⟨b, o, none⟩) h, fun b o h => hb.frozen (p := ⟨b, o, none⟩) h⟩

theorem ent_right (e : Ent) (h : e.ok) (w : World) : Calls Tryz.prog 177 #[e.val] w fun r w' => r = .returned (.bool true) ∧ Below w.heap.size w w' := by
  obtain ⟨s, z⟩ := e
  obtain ⟨h1, h2⟩ := h
  simp only [Ent.val] at *
  rcases h2 with ⟨rfl | rfl, h3⟩ | rfl
  all_goals
    go_enter Tryz.func177, Tryz.ntmps177
    go_wp2
    go_ret
    exact ⟨by simp; try omega, (Below.refl _ _).alloc (Nat.le_refl _) _⟩
theorem ent_check1 (e : Ent) (h : e.ok) (w : World) : Calls Tryz.prog 176 #[e.val] w fun r w' => r = .returned (.bool false) ∧ Below w.heap.size w w' := by
  have H := Lib.hid (ent_right e h (w.alloc (.cells #[.int .i64 (e.st : Int), .int .i64 (e.size : Int)] 139)))
  simp only [Ent.val] at *
  go_enter Tryz.func176, Tryz.ntmps176
  go_wp2_with fail
  refine H.out.mono ?_
  rintro r w1 ⟨rfl, hb⟩
  have HB := Lib.hid hb
  clear hb
  go_wp2
  go_ret
  exact ⟨rfl, ((Below.refl _ _).alloc (Nat.le_refl _) _).trans (HB.out.mono (by simp))⟩
theorem ent_active1 (e : Ent) (w : World) : Calls Tryz.prog 148 #[e.val] w fun r w' => r = .returned (.bool (e.st == 1)) ∧ Below w.heap.size w w' := by
  have hs : ((e.st : Int) == 1) = (e.st == 1) := by rw [Bool.eq_iff_iff]; simp; omega
  simp only [Ent.val] at *
  go_enter Tryz.func148, Tryz.ntmps148
  go_wp2
  go_ret
  exact ⟨by rw [← hs]; rfl, (Below.refl _ _).alloc (Nat.le_refl _) _⟩

def entFirst (p : Ent → Bool) (es : List Ent) : Int := match es.findIdx? p with | some i => i | none => -1
theorem entFirst_any (p : Ent → Bool) (es : List Ent) : decide (0 ≤ entFirst p es) = es.any p := by
  unfold entFirst
  cases h : es.findIdx? p with
  | none =>
    rw [List.findIdx?_eq_none_iff] at h
    have : es.any p = false := by simpa using h
    rw [this]; rfl
  | some i =>
    rw [List.findIdx?_eq_some_iff_getElem] at h
    obtain ⟨hi, hp, _⟩ := h
    have : es.any p = true := List.any_eq_true.2 ⟨_, List.getElem_mem hi, hp⟩
    rw [this]; simp

def IdxRel (p : Ent → Bool) (es : List Ent) (w : World) (gk : Nat) (i : Value) (wr : World) : Prop :=
  ∃ k : Nat, k ≤ es.length ∧ gk = es.length - k ∧ i = .int .i64 k ∧ Below w.heap.size w wr ∧ ∀ j (h : j < es.length), j < k → p es[j] = false

set_option maxHeartbeats 1000000 in
set_option maxRecDepth 100000 in
theorem IndexFuncEnt (K : FuncId) (hK : May K) (p : Ent → Bool) {w : World} {l : List Say} {v : Value} {es : List Ent} (h : Has w l) (hm : entS v es ∈ l) (hlen : es.length ≤ 8)
    (hp : ∀ e ∈ es, ∀ w1 : World, Calls Tryz.prog K #[e.val] w1 fun r w2 => r = .returned (.bool (p e)) ∧ Below w1.heap.size w1 w2) :
    Calls Tryz.prog 213 #[v, .func (.func K) #[] #[]] w fun r w' => r = .returned (.int .i64 (entFirst p es)) ∧ Below w.heap.size w w' := by
  have hcall := fun (vs : Array Value) (w : World) => hK.run vs w
  obtain ⟨a, c, rfl, hc, hr⟩ := h.ent_read hm
  have Hr := Lib.hid hr
  have Hp := Lib.hid hp
  clear hr hp h hm
  go_enter Tryz.func213, Tryz.ntmps213
  go_wp2
  go_loopg [8] es.length (fun gk i wr => IdxRel p es w gk i wr)
  case atStart => exact ⟨0, Nat.zero_le _, rfl, rfl, Below.refl _ _, fun _ _ h => absurd h (Nat.not_lt_zero _)⟩
  case round =>
    obtain ⟨k, hk, rfl, rfl, hb, hno⟩ := hrel
    have Hno := Lib.hid hno
    have HB := Lib.hid hb
    clear hno hb
    by_cases hlt : k < es.length
    · obtain ⟨g, rfl, h0, h1⟩ := Hr.out k es[k] (List.getElem?_eq_getElem hlt)
      have c0 := (HB.out.cell (p := ⟨g, k * 2, none⟩) (World.block_lt_of_cell? _ _ h0)).trans h0
      have c1 := (HB.out.cell (p := ⟨g, k * 2 + 1, none⟩) (World.block_lt_of_cell? _ _ h1)).trans h1
      have hq := Hp.out es[k] (List.getElem_mem hlt) wr
      generalize hx : es[k] = x at *
      have Hx := Lib.hid hx
      clear h0 h1 hx
      have hw2 : x.val = .agg #[.int .i64 (x.st : Int), .int .i64 (x.size : Int)] := rfl
      rw [hw2] at hq
      clear hw2
      by_cases hpx : p x = true
      · rw [hpx] at hq
        have hq := Lib.hid hq
        have Hhit : Hid (entFirst p es = k) := by
          have : es.findIdx? p = some k := by
            rw [List.findIdx?_eq_some_iff_getElem]
            exact ⟨hlt, by rw [Hx.out]; exact hpx, fun j hj => by simp [Hno.out j (by omega) hj]⟩
          simp [Hid, entFirst, this]
        clear hpx
        go_wp2_with fail
        refine hq.out.mono ?_
        rintro r w1 ⟨rfl, hb1⟩
        have HB1 := Lib.hid hb1
        clear hb1
        go_wp2
        go_ret
        exact ⟨by rw [Hhit.out]; rfl, HB.out.trans (HB1.out.mono HB.out.size)⟩
      · have hpx : p x = false := by simpa using hpx
        rw [hpx] at hq
        have hq := Lib.hid hq
        have Hpx := Lib.hid hpx
        clear hpx
        go_wp2_with fail
        refine hq.out.mono ?_
        rintro r w1 ⟨rfl, hb1⟩
        have HB1 := Lib.hid hb1
        clear hb1
        go_wp2
        go_roundg (es.length - (k + 1))
        case measure => omega
        case rel =>
          refine ⟨k + 1, by omega, rfl, by go_num, HB.out.trans (HB1.out.mono HB.out.size), fun j h hj => ?_⟩
          by_cases hjk : j = k
          · subst hjk; rw [Hx.out]; exact Hpx.out
          · exact Hno.out j h (by omega)
    · have e : entFirst p es = -1 := by
        have : es.findIdx? p = none := by
          rw [List.findIdx?_eq_none_iff]
          intro x hx
          obtain ⟨j, hj, rfl⟩ := List.getElem_of_mem hx
          exact Hno.out j hj (by omega)
        simp [entFirst, this]
      have He := Lib.hid e; clear e
      go_wp2
      go_ret
      exact ⟨by rw [He.out]; rfl, HB.out⟩

theorem ContainsFuncEnt (K : FuncId) (hK : May K) (p : Ent → Bool) {w : World} {l : List Say} {v : Value} {es : List Ent} (h : Has w l) (hm : entS v es ∈ l) (hlen : es.length ≤ 8)
    (hp : ∀ e ∈ es, ∀ w1 : World, Calls Tryz.prog K #[e.val] w1 fun r w2 => r = .returned (.bool (p e)) ∧ Below w1.heap.size w1 w2) :
    Calls Tryz.prog 175 #[v, .func (.func K) #[] #[]] w fun r w' => r = .returned (.bool (es.any p)) ∧ Below w.heap.size w w' := by
  have H := Lib.hid (IndexFuncEnt K hK p h hm hlen hp)
  have He := Lib.hid (entFirst_any p es)
  clear h hm hlen hp
  go_enter Tryz.func175, Tryz.ntmps175
  go_wp2_with fail
  refine H.out.mono ?_
  rintro r w1 ⟨rfl, hb⟩
  have HB := Lib.hid hb
  clear hb
  go_wp2
  go_ret
  exact ⟨by rw [← He.out]; rfl, HB.out⟩

/-- A right roster's entries. -/
structure OkEnts (es : List Ent) : Prop where
  len : es.length ≤ 8
  ok : ∀ e ∈ es, e.ok
theorem may_check1 : May 176 := ⟨Tryz.f176, Tryz.func176, by kernel_rfl, by kernel_rfl⟩
theorem ros_Check {w : World} {l : List Say} {v : Value} {es : List Ent} (h : Has w l) (hm : entS v es ∈ l) (hok : OkEnts es) :
    Calls Tryz.prog 118 #[.agg #[v]] w fun r w' => r = .returned .nilIface ∧ Below w.heap.size w w' := by
  have HC := ContainsFuncEnt 176 may_check1 (fun _ => false) (w := w.alloc (.cells #[v] 58)) (h.alloc_off _) hm hok.len (fun e he w1 => ent_check1 e (hok.ok e he) w1)
  obtain ⟨a, c, rfl, hc, hr⟩ := h.ent_read hm
  have HC := Lib.hid HC
  have hl := hok.len
  have hany : es.any (fun _ => false) = false := by simp
  rw [hany] at HC
  have hd : decide ((8 : Int) < es.length) = false := by simp; omega
  have hd2 : decide ((es.length : Int) > 8) = false := by simp; omega
  clear hr h hm hok hany
  go_enter Tryz.func118, Tryz.ntmps118
  go_wp2_with fail
  refine HC.out.mono ?_
  rintro r w1 ⟨rfl, hb⟩
  have HB := Lib.hid hb
  clear hb
  go_wp2
  go_ret
  exact ⟨rfl, ((Below.refl _ _).alloc (Nat.le_refl _) _).trans (HB.out.mono (by simp))⟩
end Go.Proofs.YtgbgneiciabidaaGreatDoor
