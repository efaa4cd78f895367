/-
  Bitmaps (layer 7), the fourth part: Grow, New.
-/
import Derived.Test.YtgbgneiciabidaaGreatDoorBitmapC
import Derived.Deep.LoopGhost
namespace Go.Proofs.YtgbgneiciabidaaGreatDoor
open Go Go.RowKit
set_option linter.unusedVariables false
set_option linter.unusedSimpArgs false

theorem info_u64 : (Tryz.prog.info? 247).map (fun i => (i.zero, i.size, i.bytes)) = some (some (.int .u64 0), 1, 8) := by kernel_rfl

theorem Words.more {n : Nat} {ws : List Nat} {S : Nat → Bool} (h : Words n ws S) (hlt : ws.length < 64) : Words n (ws ++ [0]) S := by
  refine ⟨by have := h.len; simp; omega, by simp; omega, h.big, fun x hx => ?_, fun i => ?_, h.off⟩
  · rcases List.mem_append.1 hx with hx | hx
    · exact h.lt x hx
    · simp at hx; omega
  · rw [h.bit, List.getD_eq_getElem?_getD, List.getD_eq_getElem?_getD]
    by_cases hi : i / 64 < ws.length
    · rw [List.getElem?_append_left hi]
    · rw [List.getElem?_append_right (by omega), List.getElem?_eq_none (by omega)]
      by_cases h0 : i / 64 - ws.length = 0
      · rw [h0]; rfl
      · rw [List.getElem?_eq_none (by simp; omega)]

/-- The relation of Grow's loop. -/
def GrowRel (b n n2 : Nat) (S : Nat → Bool) (l : List Say) (w : World) (k : Nat) (wr : World) : Prop :=
  ∃ v ws, Words n ws S ∧ 64 - ws.length = k ∧ Kept w wr ∧ Has wr (pts b (.cells #[.int .i64 (n2 : Int), v] 250 (0, 0)) :: rowS 247 1 v ws.length (ws.map wordOf) :: l)

set_option maxRecDepth 100000 in
theorem bm_Grow {w : World} {l : List Say} {b n : Nat} {S : Nat → Bool} (h : Has w (bmS b n S :: l)) (more : Nat) (hm : n + more ≤ 4096) :
    Calls Tryz.prog 179 #[.pointer (some ⟨b, 0, none⟩), .int .i64 (more : Int)] w fun e w' =>
      e = .returned .nilIface ∧ Kept w w' ∧ Has w' (bmS b (n + more) S :: l) := by
  obtain ⟨v, ws, hw, h1⟩ := h.bm_open
  obtain ⟨n2, hn2⟩ : ∃ n2, n2 = n + more := ⟨_, rfl⟩
  have hb := h1.got
  have c0 : w.cell? ⟨b, 0, none⟩ = some (.int .i64 (n : Int)) := cell_of hb 0 rfl
  have f0 := thaw_of hb 0
  have h2 := h1.setCell 0 (.int .i64 ((n2 : Nat) : Int))
  have hsum : IntKind.i64.wrap ((n : Int) + (more : Int)) = (n2 : Int) := by rw [hn2]; rw [IntWalk.i64_in _ (by omega)]; omega
  have hn4 : n2 ≤ 4096 := by omega
  have hd : decide ((4096 : Int) - n < more) = false := by simp; omega
  have hd2 : decide ((more : Int) > (4096 : Int) - n) = false := by simp; omega
  have Hw := Lib.hid hw
  have Hn2 := Lib.hid hn2
  have H2 := Lib.hid h2
  clear h h1 hb hw hn2 h2
  obtain ⟨i0, hi, hz0, hz1, hz2⟩ := info_parts info_u64
  go_enter Tryz.func179, Tryz.ntmps179
  go_wp2
  generalize hW : w.setCell ⟨b, 0, none⟩ (.int .i64 ((n2 : Nat) : Int)) = W at *
  have HK : Hid (Kept w W) := by rw [← hW]; exact (Kept.refl w).setCell _ _
  clear hW
  go_loopg [] (64 - ws.length) (fun k wr => GrowRel b n n2 S l w k wr)
  case atStart => exact ⟨v, ws, Hw.out, rfl, HK.out, H2.out⟩
  case round =>
    clear H2 Hw HK c0 f0
    obtain ⟨v1, ws1, hw1, hk1, hK1, hh⟩ := hrel
    obtain ⟨_, a, c, rfl, hc, _, hr⟩ := hh.row_read (v := v1) (e := 247) (n := ws1.length) (xs := ws1.map wordOf) (by simp)
    have hb := hh.got
    have c0 : wr.cell? ⟨b, 0, none⟩ = some (.int .i64 (n2 : Int)) := cell_of hb 0 rfl
    have c1 : wr.cell? ⟨b, 1, none⟩ = some (.slice a ws1.length c) := cell_of hb 1 rfl
    have few := hw1.few
    have Hw1 := Lib.hid hw1
    have HK1 := Lib.hid hK1
    have HH := Lib.hid hh
    have Hk1 := Lib.hid hk1
    have hwr : IntKind.i64.wrap ((ws1.length : Int) * 64) = (ws1.length : Int) * 64 := IntWalk.i64_in _ (by omega)
    clear hr hb hw1 hK1 hh hk1
    by_cases hlt : (ws1.length : Int) * 64 < n2
    · go_wp2_with fail
      go_quiet (fail)
      go_wp2_with (at_builtin; go_loud (refine wpList_append_row (l := pts b (.cells #[.int .i64 (n2 : Int), .slice a ws1.length c] 250 (0, 0)) :: l) rfl (.tmp 40) (.tmp 41) 248 rfl 247 i0 (.int .u64 0) 1 8 Tryz.underlying248 hi hz0 hz1 hz2 rfl (by decide) _ ws1.length (ws1.map wordOf) rfl ?hown ⟨_, 0, none⟩ 1 1 [.int .u64 0] rfl rfl ?hnews ?hone ?h63 ?hby ?next))
      case hown => exact ((HH.out.swap).drewN nq).alloc_off _
      case hnews => exact one_new (wr.drewN nq) _ _
      case hone => intro u hu; simp at hu; subst hu; rfl
      case h63 => simp [maxLen]; omega
      case hby => omega
      case next =>
        intro v2 w2 hK2 h2
        obtain ⟨_, a2, cc2, rfl, _, _, _⟩ := h2.row_read (v := v2) (e := 247) (n := ws1.length + 1) (xs := ws1.map wordOf ++ [.int .u64 0]) (by simp)
        have h3 := h2.swap
        have hb := h3.got
        have c1 : w2.cell? ⟨b, 1, none⟩ = some (.slice a ws1.length c) := cell_of hb 1 rfl
        have f1 := thaw_of hb 1
        have H4 := Lib.hid (h3.setCell 1 (.slice a2 (ws1.length + 1) cc2))
        have HK2 := Lib.hid hK2
        clear hb h2 h3 hK2
        go_wp2
        go_roundg (63 - ws1.length)
        case measure => have := Hk1.out; omega
        case rel =>
          refine ⟨.slice a2 (ws1.length + 1) cc2, ws1 ++ [0], Hw1.out.more (by omega), by simp, ?_, ?_⟩
          · exact ((((HK1.out.drewN nq).alloc _).trans HK2.out).setCell _ _)
          · simpa [wordOf] using H4.out
    · go_wp2_with fail
      go_quiet (fail)
      go_wp2
      go_ret
      refine ⟨rfl, HK1.out.drewN nq, ?_⟩
      rw [← Hn2.out]
      have hw1 := Hw1.out
      exact Has.bm_shut ⟨by omega, hw1.few, hn4, hw1.lt, hw1.bit, fun i hi => hw1.off i (by have := Hn2.out; omega)⟩ (HH.out.drewN nq)

theorem words_none : Words 0 [] (fun _ => false) := ⟨by simp, by simp, by omega, by simp, fun i => by simp, fun _ _ => rfl⟩

theorem bm_New {w : World} {l : List Say} (h : Has w l) (n : Nat) (hn : n ≤ 4096) :
    Calls Tryz.prog 178 #[.int .i64 (n : Int)] w fun e w' =>
      e = .returned (.tuple #[.pointer (some ⟨w.heap.size, 0, none⟩), .nilIface]) ∧ Kept w w' ∧ Has w' (bmS w.heap.size n (fun _ => false) :: l) := by
  have h1 : Has (w.alloc (.cells #[.int .i64 0, .slice none 0 0] 250 (0, 0))) (bmS w.heap.size 0 (fun _ => false) :: l) := by
    refine Has.bm_shut (v := .slice none 0 0) (ws := []) words_none ?_
    exact ((h.alloc _).row_nil 247 1).swap
  have HG := Lib.hid (bm_Grow h1 n (by omega))
  clear h1 h
  go_enter Tryz.func178, Tryz.ntmps178
  go_wp2_with fail
  refine HG.out.mono ?_
  rintro e w1 ⟨rfl, hK, h2⟩
  have HK := Lib.hid hK
  have H2 := Lib.hid h2
  clear hK h2
  go_wp2
  go_ret2
  exact ⟨rfl, ((Kept.refl w).alloc _).trans HK.out, by simpa using H2.out⟩
end Go.Proofs.YtgbgneiciabidaaGreatDoor
