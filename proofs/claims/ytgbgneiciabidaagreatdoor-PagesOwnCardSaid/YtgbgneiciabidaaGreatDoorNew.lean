/-
  Spaces (layer 8), the sixth part: New, Roster, Taken.
-/
import Derived.Test.YtgbgneiciabidaaGreatDoorTurn
namespace Go.Proofs.YtgbgneiciabidaaGreatDoor
open Go Go.RowKit
set_option linter.unusedVariables false
set_option linter.unusedSimpArgs false

def NewPost (es : List Ent) (l : List Say) (w : World) (r : Ending) (w' : World) : Prop := ∃ s, r = .returned (.tuple #[.pointer (some ⟨s, 0, none⟩), .nilIface]) ∧ Kept w w' ∧ Has w' (spaceS s (freshSpc es) :: l)

set_option maxRecDepth 100000 in
theorem sp_New {w : World} {l : List Say} {v : Value} {es : List Ent} (h : Has w l) (hm : entS v es ∈ l) (hok : OkEnts es) (hne : es ≠ []) :
    Calls Tryz.prog 29 #[.agg #[v]] w (NewPost es l w) := by
  have h1 := h.alloc_off (.cells #[v] 58)
  have c1 := (h.alloc (.cells #[v] 58)).got
  have h2 := h1.alloc (.cells #[.slice none 0 0, .slice none 0 0] 163)
  have h3 := h2.alloc (.cells #[.pointer (some ⟨w.heap.size + 1, 0, none⟩), .pointer none] 160)
  have k1 : Kept w (((w.alloc (.cells #[v] 58)).alloc (.cells #[.slice none 0 0, .slice none 0 0] 163)).alloc (.cells #[.pointer (some ⟨w.heap.size + 1, 0, none⟩), .pointer none] 160)) := (((Kept.refl w).alloc _).alloc _).alloc _
  have cb : (w.alloc (.cells #[v] 58)).cell? ⟨w.heap.size, 0, none⟩ = some v := cell_of c1 0 rfl
  simp only [World.size_alloc] at h2 h3
  obtain ⟨a, c, hv, hc, _⟩ := h.ent_read hm
  subst hv
  have h4 := (((h3.row_nil 175 1).row_nil 139 2).pull 3).pull 3
  have HT := Lib.hid (sp_Turn0 (s := w.heap.size + 1 + 1) (x := ⟨w.heap.size + 1, .slice none 0 0, .slice none 0 0, []⟩) (v := .slice a es.length c) (es := es) (l := l) h4 rfl hm hok hne)
  have K1 := Lib.hid k1
  clear h h1 h2 h3 k1 hm hok hne c1 h4
  go_enter Tryz.func29, Tryz.ntmps29
  go_wp2_with fail
  refine HT.out.mono ?_
  rintro r w1 ⟨rfl, hk, hh⟩
  have HP : Hid (Kept w w1 ∧ Has w1 (spaceS (w.heap.size + 1 + 1) (freshSpc es) :: l)) := ⟨K1.out.trans hk, hh⟩
  clear hk hh HT K1
  go_wp2
  go_ret2
  exact ⟨_, rfl, HP.out.1, HP.out.2⟩

set_option maxRecDepth 100000 in
theorem sp_Roster {w : World} {l : List Say} {s : Nat} {X : Spc} (h : Has w (spaceS s X :: l)) :
    Calls Tryz.prog 30 #[.pointer (some ⟨s, 0, none⟩)] w (EntPost w X.es (spaceS s X :: l)) := by
  obtain ⟨x, ok, hh⟩ := h.sp_open
  have h1 := hh.alloc (.cells #[.slice none 0 0] 58)
  obtain ⟨a, c, sa, sc, R⟩ := h1.sp_read (s := s) (X := X) (x := x) (fun A hA => .tail _ (List.mem_append_left _ hA)) ok
  have HC := Lib.hid (space_copied h1 (v := x.lv) (es := X.es) (by simp [spFlat, spHead]) ok.ents ok.ne)
  rw [R.lv] at HC
  have s0 : (w.alloc (.cells #[.slice none 0 0] 58)).cell? ⟨s, 0, none⟩ = some (.pointer (some ⟨x.st, 0, none⟩)) := R.s0
  have t0 : (w.alloc (.cells #[.slice none 0 0] 58)).cell? ⟨x.st, 0, none⟩ = some (.slice a X.es.length c) := R.t0
  have HK : Hid (Kept w (w.alloc (.cells #[.slice none 0 0] 58))) := (Kept.refl w).alloc _
  have l0 := World.block_lt_of_cell? _ _ s0
  have l1 := World.block_lt_of_cell? _ _ t0
  have Hok := Lib.hid ok
  have Hh := Lib.hid hh
  clear R h1 hh h ok
  go_enter Tryz.func30, Tryz.ntmps30
  generalize hW : w.alloc (.cells #[.slice none 0 0] 58) = W at *
  go_wp2_with fail
  refine HC.out.mono ?_
  rintro r w1 ⟨v1, rfl, hK, h2⟩
  obtain ⟨a1, k1, rfl, _⟩ := h2.row_val (e := 139) (size := 2) (v := v1) (n := X.es.length) (xs := X.es.flatMap Ent.cells) (.head _)
  have hp := h2.swap.got
  have f1 := thaw_of hp 0
  have c1 : w1.cell? ⟨w.heap.size, 0, none⟩ = some (.slice none 0 0) := cell_of hp 0 rfl
  have hz : w.heap.size < w1.heap.size := World.block_lt_of_cell? _ _ c1
  have H2 := Lib.hid ((h2.swap.setCell 0 (.slice a1 X.es.length k1)).tail)
  have HK1 := Lib.hid (HK.out.trans hK)
  clear h2 hK hp HC
  go_wp2
  refine bodyPost_ret (v := .agg #[.slice a1 X.es.length k1]) (by simp [results, Tryz.results30, go_sem, c1]) rfl ⟨.slice a1 X.es.length k1, rfl, HK1.out.setCell _ _, ?_⟩
  exact (Has.swap (Has.sp_shut Hok.out (H2.out.perm List.perm_middle.symm)))

set_option maxRecDepth 100000 in
theorem sp_Taken {w : World} {l : List Say} {s : Nat} {X : Spc} (h : Has w (spaceS s X :: l)) (d k : Nat) (e : Ent) (y : Shelf) (r : InRoom X d k e y) :
    Calls Tryz.prog 35 #[.pointer (some ⟨s, 0, none⟩), .int .i64 ((d * 4096 + k : Nat) : Int)] w fun r w' => r = .returned (.bool (y.taken k)) ∧ Kept w w' ∧ Has w' (spaceS s X :: l) := by
  obtain ⟨x, ok, hh⟩ := h.sp_open
  have hy := r.shelf
  obtain ⟨a, c, sa, sc, R⟩ := hh.sp_read (fun A hA => List.mem_append_left _ hA) ok
  obtain ⟨q, b, _, _, hmem, hb⟩ := R.shelf d y hy
  have HF := Lib.hid (sp_find hh (fun A hA => List.mem_append_left _ hA) ok d k e y r b hb)
  have Hmem : Hid (shelfS b y ∈ spFlat s X x ++ l) := List.mem_append_left _ (List.mem_append_right _ hmem)
  have Hh := Lib.hid hh
  have Hok := Lib.hid ok
  clear R h hh ok hmem hb hy r
  go_enter Tryz.func35, Tryz.ntmps35
  go_wp2_with fail
  refine HF.out.mono ?_
  rintro r w1 ⟨rfl, hb1⟩
  have h1 := Hh.out.below hb1
  obtain ⟨x1, y1, z1, c0, c1, c2, hbm⟩ := h1.shelf_read Hmem.out
  have HH := Lib.hid (bm_Has hbm (b := x1) (.head _) k)
  have H1 := Lib.hid h1
  have HB := Lib.hid hb1
  clear h1 hb1 hbm Hh HF
  go_wp2_with fail
  refine HH.out.mono ?_
  rintro r w2 ⟨rfl, rfl⟩
  go_wp2
  go_ret
  exact ⟨rfl, Kept.below HB.out, H1.out.sp_shut Hok.out⟩
end Go.Proofs.YtgbgneiciabidaaGreatDoor
