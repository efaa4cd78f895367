/-
  Rosters (layer 5), the second part: those, Actives; copies.
-/
import Derived.Test.YtgbgneiciabidaaGreatDoorRoster
import Derived.WalkSpells
namespace Go.Proofs.YtgbgneiciabidaaGreatDoor
open Go Go.RowKit
set_option linter.unusedVariables false
set_option linter.unusedSimpArgs false

/-- The places below k of the entries that meet p. -/
def idxTo (p : Ent → Bool) (es : List Ent) : Nat → List Nat
  | 0 => []
  | k + 1 => idxTo p es k ++ match es[k]? with | some e => if p e then [k] else [] | none => []
theorem idxTo_len (p : Ent → Bool) (es : List Ent) : ∀ k, (idxTo p es k).length ≤ k
  | 0 => Nat.le_refl _
  | k + 1 => by
    have := idxTo_len p es k
    rw [idxTo, List.length_append]
    cases es[k]? with
    | none => simp; omega
    | some e => by_cases h : p e = true <;> simp [h] <;> omega
def natVal (n : Nat) : Value := .int .i64 (n : Int)

def ThoseRel (p : Ent → Bool) (es : List Ent) (l : List Say) (w : World) (gk : Nat) (o i : Value) (wr : World) : Prop :=
  ∃ k : Nat, k ≤ es.length ∧ gk = es.length - k ∧ i = .int .i64 k ∧ Kept w wr ∧ Has wr (rowS 3 1 o (idxTo p es k).length ((idxTo p es k).map natVal) :: l)

theorem info_int : (Tryz.prog.info? 3).map (fun i => (i.zero, i.size, i.bytes)) = some (some (.int .i64 0), 1, 8) := by kernel_rfl

/-- A new row of numbers is handed back. -/
def RowPost (w : World) (xs : List Nat) (l : List Say) (r : Ending) (w' : World) : Prop :=
  ∃ o, r = .returned o ∧ Kept w w' ∧ Has w' (rowS 3 1 o xs.length (xs.map natVal) :: l)

set_option maxHeartbeats 1000000 in
set_option maxRecDepth 100000 in
theorem ros_those (K : FuncId) (hK : May K) (p : Ent → Bool) {w : World} {l : List Say} {v : Value} {es : List Ent} (h : Has w l) (hm : entS v es ∈ l) (hok : OkEnts es)
    (hp : ∀ e ∈ es, ∀ w1 : World, Calls Tryz.prog K #[e.val] w1 fun r w2 => r = .returned (.bool (p e)) ∧ Below w1.heap.size w1 w2) :
    Calls Tryz.prog 147 #[.agg #[v], .func (.func K) #[] #[]] w (RowPost w (idxTo p es es.length) l) := by
  have hcall := fun (vs : Array Value) (w : World) => hK.run vs w
  obtain ⟨a, c, rfl, hc, hr⟩ := h.ent_read hm
  have hlen := hok.len
  have H1 := Lib.hid (h.alloc (.cells #[.slice a es.length c] 58))
  have Hp := Lib.hid hp
  have Hm := Lib.hid hm
  have Hok := Lib.hid hok
  clear hr hp h hm hok
  obtain ⟨i0, hi, hz0, hz1, hz2⟩ := info_parts info_int
  go_enter Tryz.func147, Tryz.ntmps147
  go_wp2
  go_loopg [5, 11] es.length (fun gk o i wr => ThoseRel p es (pts w.heap.size (.cells #[.slice a es.length c] 58) :: l) w gk o i wr)
  case atStart => exact ⟨0, Nat.zero_le _, rfl, rfl, (Kept.refl w).alloc _, H1.out.row_nil _ _⟩
  case round =>
    clear H1
    obtain ⟨k, hk, rfl, rfl, hkept, hh⟩ := hrel
    have HK := Lib.hid hkept
    have hbox : wr.cell? ⟨w.heap.size, 0, none⟩ = some (.slice a es.length c) := cell_of (hh.at (b := w.heap.size) (o := .cells #[.slice a es.length c] 58 (0, 0)) (by simp)) 0 rfl
    have hlt0 : w.heap.size < wr.heap.size := World.block_lt_of_cell? _ _ hbox
    by_cases hlt : k < es.length
    · obtain ⟨a', c', hv, _, hr⟩ := hh.ent_read (v := .slice a es.length c) (es := es) (by simp [Hm.out])
      cases hv
      obtain ⟨g, rfl, c0, c1⟩ := hr k es[k] (List.getElem?_eq_getElem hlt)
      have hgl : g < wr.heap.size := World.block_lt_of_cell? _ _ c0
      have hmem : es[k] ∈ es := List.getElem_mem hlt
      have hstep : idxTo p es (k + 1) = idxTo p es k ++ if p es[k] then [k] else [] := by rw [idxTo, List.getElem?_eq_getElem hlt]
      have hil := idxTo_len p es k
      generalize hx : es[k] = x at *
      have Hx := Lib.hid hx
      have Hmem := Lib.hid hmem
      have Hstep := Lib.hid hstep
      have HH := Lib.hid hh
      clear hx hh hr hkept hmem hstep
      have hbox1 : ∀ o, (wr.alloc o).cell? ⟨w.heap.size, 0, none⟩ = some (.slice (some ⟨g, 0, none⟩) es.length c) := fun o => by rw [World.cell?_alloc_lt _ _ _ hlt0]; exact hbox
      have HC := Lib.hid (ros_Check (w := wr.alloc (.cells #[.int .i64 (x.st : Int), .int .i64 (x.size : Int)] 139)) (HH.out.alloc_off _) (.tail _ (.tail _ Hm.out)) Hok.out)
      have HF := Lib.hid (Hp.out x Hmem.out)
      have hxv : x.val = .agg #[.int .i64 (x.st : Int), .int .i64 (x.size : Int)] := rfl
      rw [hxv] at HF
      clear hxv
      have d0 : (wr.alloc (.cells #[.int .i64 (x.st : Int), .int .i64 (x.size : Int)] 139)).cell? ⟨wr.heap.size, 0, none⟩ = some (.int .i64 (x.st : Int)) := by simp
      have d1 : (wr.alloc (.cells #[.int .i64 (x.st : Int), .int .i64 (x.size : Int)] 139)).cell? ⟨wr.heap.size, 1, none⟩ = some (.int .i64 (x.size : Int)) := by simp
      have D0 := Lib.hid d0
      have D1 := Lib.hid d1
      clear d0 d1
      go_wp2_with fail
      refine HC.out.mono ?_
      rintro r w2 ⟨rfl, hb2⟩
      have d0 := (hb2.cell (p := ⟨wr.heap.size, 0, none⟩) (by simp)).trans D0.out
      have d1 := (hb2.cell (p := ⟨wr.heap.size, 1, none⟩) (by simp)).trans D1.out
      clear c0 c1
      have HB2 := Lib.hid hb2
      have hsz2 : wr.heap.size < w2.heap.size := by have := hb2.size; simp at this; omega
      clear hb2
      go_wp2_with fail
      refine (HF.out w2).mono ?_
      rintro r w3 ⟨rfl, hb3⟩
      have H3 : Hid (Has w3 (rowS 3 1 u5 (idxTo p es k).length ((idxTo p es k).map natVal) :: pts w.heap.size (.cells #[.slice (some ⟨g, 0, none⟩) es.length c] 58) :: l)) :=
        ((HH.out.alloc_off _).below HB2.out).below hb3
      have HK3 : Hid (Kept w w3) := (((HK.out.alloc _).trans (Kept.below HB2.out))).trans (Kept.below hb3)
      clear hb3 hbox hbox1
      by_cases hpx : p x = true
      · rw [if_pos hpx] at Hstep
        go_wp2_with (at_builtin; go_loud (refine wpList_append_row (l := pts w.heap.size (.cells #[.slice (some ⟨g, 0, none⟩) es.length c] 58) :: l) rfl (.tmp 24) (.tmp 26) 22 rfl 3 i0 (.int .i64 0) 1 8 Tryz.underlying22 hi hz0 hz1 hz2 rfl (by decide) _ (idxTo p es k).length ((idxTo p es k).map natVal) rfl ?hown ⟨_, 0, none⟩ 1 1 [.int .i64 (k : Int)] rfl rfl ?hnews ?hone ?h63 ?hby ?next))
        case hown => exact H3.out.alloc_off _
        case hnews => exact one_new w3 _ _
        case hone => intro u hu; simp at hu; subst hu; rfl
        case h63 => simp [maxLen]; omega
        case hby => omega
        case next =>
          intro v2 w4 hK4 h4
          have HK4 := Lib.hid hK4
          have H4 := Lib.hid h4
          clear hK4 h4
          go_wp2
          go_roundg (es.length - (k + 1))
          case measure => omega
          case rel =>
            refine ⟨k + 1, by omega, rfl, by go_num, (HK3.out.alloc _).trans HK4.out, ?_⟩
            rw [Hstep.out]
            simpa [natVal] using H4.out
      · rw [if_neg hpx] at Hstep
        have hpf : p x = false := by simpa using hpx
        clear hpx
        go_wp2
        go_roundg (es.length - (k + 1))
        case measure => omega
        case rel =>
          refine ⟨k + 1, by omega, rfl, by go_num, HK3.out, ?_⟩
          rw [Hstep.out, List.append_nil]
          exact H3.out
    · obtain rfl : k = es.length := by omega
      have HH := Lib.hid hh
      clear hh hkept
      go_wp2
      go_ret
      exact ⟨_, rfl, HK.out, HH.out.swap.tail⟩
end Go.Proofs.YtgbgneiciabidaaGreatDoor
