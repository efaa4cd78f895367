/-
  Copies of rows: slices.Clone, bytes.Clone; the entries of a roster that are Active.
-/
import Derived.Test.YtgbgneiciabidaaGreatDoorRosterB
import Derived.Lib.SliceRun
namespace Go.Proofs.YtgbgneiciabidaaGreatDoor
open Go Go.RowKit
set_option linter.unusedVariables false
set_option linter.unusedSimpArgs false

/-- A copy is handed back. -/
def ClonePost (w : World) (e size n : Nat) (news : List Value) (l : List Say) (r : Ending) (w' : World) : Prop :=
  ∃ v, r = .returned v ∧ Kept w w' ∧ Has w' (rowS e size v n news :: l)

theorem info_ent : (Tryz.prog.info? 139).map (fun i => (i.zero, i.size, i.bytes)) = some (some (.agg #[.int .i64 0, .int .i64 0]), 2, 16) := by kernel_rfl
theorem info_u8 : (Tryz.prog.info? 5).map (fun i => (i.zero, i.size, i.bytes)) = some (some (.int .u8 0), 1, 1) := by kernel_rfl

theorem clone_int {w : World} {l : List Say} (h : Has w l) (b off n c : Nat) (news : List Value) (hl : news.length = n * 1) (hc : ∀ j u, news[j]? = some u → w.cell? ⟨b, off + j, none⟩ = some u) (h1 : ∀ u ∈ news, u.oneCell' = true)
    (hn : n ≤ maxLen) (hby : n * 8 ≤ 140737488355328) :
    Calls Tryz.prog 146 #[.slice (some ⟨b, off, none⟩) n c] w (ClonePost w 3 1 n news l) := by
  obtain ⟨i0, I1, I2, I3, I4⟩ := info_parts info_int
  have heq := fun (w : World) => Lib.run_eql_slice_nil (P := Tryz.prog) w 22 3 (some ⟨b, off, none⟩) n c 0 0 Tryz.underlying22
  have hrow : Has (w.alloc (.cells #[] 3 (0, 0))) (rowS 3 1 (.slice (some ⟨w.heap.size, 0, none⟩) 0 0) 0 [] :: l) :=
    (h.alloc (.cells #[] 3 (0, 0))).row_of_pts (by simp) (Nat.le_refl _) (by simp [maxLen]) (by simp) (by simp)
  have HR := Lib.hid hrow
  have HC : Hid (∀ j u, news[j]? = some u → (w.alloc (.cells #[] 3 (0, 0))).cell? ((⟨b, off, none⟩ : Addr).add j) = some u) := fun j u hu => by
    rw [Addr.add_lit, World.cell?_alloc_lt _ _ _ (World.block_lt_of_cell? _ _ (hc j u hu))]
    exact hc j u hu
  have HL := Lib.hid hl
  have H1 := Lib.hid h1
  clear hrow hc h hl h1
  go_enter Tryz.func146, Tryz.ntmps146
  go_wp2_with (at_builtin; refine wpList_append_row (l := l) rfl (.tmp 5) (.tmp 6) 22 rfl 3 i0 (.int .i64 0) 1 8 Tryz.underlying22 I1 I2 I3 I4 rfl (by decide) (.slice (some ⟨w.heap.size, 0, none⟩) 0 0) 0 [] rfl ?hown ⟨b, off, none⟩ n c news rfl ?hl ?hnews ?hone ?h63 ?hby ?next)
  case hown => exact HR.out
  case hl => exact HL.out
  case hnews => exact HC.out
  case hone => exact H1.out
  case h63 => omega
  case hby => omega
  case next =>
    intro v2 w2 hK2 h2
    have HK2 := Lib.hid hK2
    have H2 := Lib.hid h2
    clear hK2 h2
    go_wp2
    go_ret
    exact ⟨v2, rfl, ((Kept.refl w).alloc _).trans HK2.out, by simpa using H2.out⟩

theorem clone_u8 {w : World} {l : List Say} (h : Has w l) (b off n c : Nat) (news : List Value) (hl : news.length = n * 1) (hc : ∀ j u, news[j]? = some u → w.cell? ⟨b, off + j, none⟩ = some u) (h1 : ∀ u ∈ news, u.oneCell' = true)
    (hn : n ≤ maxLen) (hby : n * 1 ≤ 140737488355328) :
    Calls Tryz.prog 191 #[.slice (some ⟨b, off, none⟩) n c] w (ClonePost w 5 1 n news l) := by
  obtain ⟨i0, I1, I2, I3, I4⟩ := info_parts info_u8
  have heq := fun (w : World) => Lib.run_eql_slice_nil (P := Tryz.prog) w 141 5 (some ⟨b, off, none⟩) n c 0 0 Tryz.underlying141
  have hrow : Has (w.alloc (.cells #[] 5 (0, 0))) (rowS 5 1 (.slice (some ⟨w.heap.size, 0, none⟩) 0 0) 0 [] :: l) :=
    (h.alloc (.cells #[] 5 (0, 0))).row_of_pts (by simp) (Nat.le_refl _) (by simp [maxLen]) (by simp) (by simp)
  have HR := Lib.hid hrow
  have HC : Hid (∀ j u, news[j]? = some u → (w.alloc (.cells #[] 5 (0, 0))).cell? ((⟨b, off, none⟩ : Addr).add j) = some u) := fun j u hu => by
    rw [Addr.add_lit, World.cell?_alloc_lt _ _ _ (World.block_lt_of_cell? _ _ (hc j u hu))]
    exact hc j u hu
  have HL := Lib.hid hl
  have H1 := Lib.hid h1
  clear hrow hc h hl h1
  go_enter Tryz.func191, Tryz.ntmps191
  go_wp2_with (at_builtin; refine wpList_append_row (l := l) rfl (.tmp 5) (.tmp 6) 141 rfl 5 i0 (.int .u8 0) 1 1 Tryz.underlying141 I1 I2 I3 I4 rfl (by decide) (.slice (some ⟨w.heap.size, 0, none⟩) 0 0) 0 [] rfl ?hown ⟨b, off, none⟩ n c news rfl ?hl ?hnews ?hone ?h63 ?hby ?next)
  case hown => exact HR.out
  case hl => exact HL.out
  case hnews => exact HC.out
  case hone => exact H1.out
  case h63 => omega
  case hby => omega
  case next =>
    intro v2 w2 hK2 h2
    have HK2 := Lib.hid hK2
    have H2 := Lib.hid h2
    clear hK2 h2
    go_wp2
    go_ret
    exact ⟨v2, rfl, ((Kept.refl w).alloc _).trans HK2.out, by simpa using H2.out⟩

theorem clone_ent {w : World} {l : List Say} (h : Has w l) (b off n c : Nat) (news : List Value) (hl : news.length = n * 2) (hc : ∀ j u, news[j]? = some u → w.cell? ⟨b, off + j, none⟩ = some u) (h1 : ∀ u ∈ news, u.oneCell' = true)
    (hn : n ≤ maxLen) (hby : n * 16 ≤ 140737488355328) :
    Calls Tryz.prog 155 #[.slice (some ⟨b, off, none⟩) n c] w (ClonePost w 139 2 n news l) := by
  obtain ⟨i0, I1, I2, I3, I4⟩ := info_parts info_ent
  have heq := fun (w : World) => Lib.run_eql_slice_nil (P := Tryz.prog) w 56 139 (some ⟨b, off, none⟩) n c 0 0 Tryz.underlying56
  have hrow : Has (w.alloc (.cells #[] 139 (0, 0))) (rowS 139 2 (.slice (some ⟨w.heap.size, 0, none⟩) 0 0) 0 [] :: l) :=
    (h.alloc (.cells #[] 139 (0, 0))).row_of_pts (by simp) (Nat.le_refl _) (by simp [maxLen]) (by simp) (by simp)
  have HR := Lib.hid hrow
  have HC : Hid (∀ j u, news[j]? = some u → (w.alloc (.cells #[] 139 (0, 0))).cell? ((⟨b, off, none⟩ : Addr).add j) = some u) := fun j u hu => by
    rw [Addr.add_lit, World.cell?_alloc_lt _ _ _ (World.block_lt_of_cell? _ _ (hc j u hu))]
    exact hc j u hu
  have HL := Lib.hid hl
  have H1 := Lib.hid h1
  clear hrow hc h hl h1
  go_enter Tryz.func155, Tryz.ntmps155
  go_wp2_with (at_builtin; refine wpList_append_row (l := l) rfl (.tmp 5) (.tmp 6) 56 rfl 139 i0 (.agg #[.int .i64 0, .int .i64 0]) 2 16 Tryz.underlying56 I1 I2 I3 I4 rfl (by decide) (.slice (some ⟨w.heap.size, 0, none⟩) 0 0) 0 [] rfl ?hown ⟨b, off, none⟩ n c news rfl ?hl ?hnews ?hone ?h63 ?hby ?next)
  case hown => exact HR.out
  case hl => exact HL.out
  case hnews => exact HC.out
  case hone => exact H1.out
  case h63 => omega
  case hby => omega
  case next =>
    intro v2 w2 hK2 h2
    have HK2 := Lib.hid hK2
    have H2 := Lib.hid h2
    clear hK2 h2
    go_wp2
    go_ret
    exact ⟨v2, rfl, ((Kept.refl w).alloc _).trans HK2.out, by simpa using H2.out⟩

theorem may_active1 : May 148 := ⟨Tryz.f148, Tryz.func148, by kernel_rfl, by kernel_rfl⟩
/-- The places of the Active entries. -/
def actives (es : List Ent) : List Nat := idxTo (fun e => e.st == 1) es es.length
theorem ros_Actives {w : World} {l : List Say} {v : Value} {es : List Ent} (h : Has w l) (hm : entS v es ∈ l) (hok : OkEnts es) :
    Calls Tryz.prog 84 #[.agg #[v]] w (RowPost w (actives es) l) := by
  have H := Lib.hid (ros_those 148 may_active1 (fun e => e.st == 1) (w := w.alloc (.cells #[v] 58)) (h.alloc_off _) hm hok (fun e he w1 => ent_active1 e w1))
  obtain ⟨a, c, rfl, hc, hr⟩ := h.ent_read hm
  clear hr h hm hok
  go_enter Tryz.func84, Tryz.ntmps84
  go_wp2_with fail
  refine H.out.mono ?_
  rintro r w1 ⟨o, rfl, hK, h1⟩
  have HK := Lib.hid hK
  have H1 := Lib.hid h1
  clear hK h1
  go_wp2
  go_ret
  exact ⟨o, rfl, ((Kept.refl w).alloc _).trans HK.out, H1.out⟩

/-- A roster is handed back: a row of entries. -/
def EntPost (w : World) (es : List Ent) (l : List Say) (r : Ending) (w' : World) : Prop :=
  ∃ v, r = .returned (.agg #[v]) ∧ Kept w w' ∧ Has w' (entS v es :: l)
theorem ent_one (es : List Ent) : ∀ u ∈ es.flatMap Ent.cells, u.oneCell' = true := by
  intro u hu
  obtain ⟨e, _, he⟩ := List.mem_flatMap.1 hu
  simp [Ent.cells] at he
  rcases he with rfl | rfl <;> rfl
theorem Has.ent_cells {w : World} {l : List Say} {v : Value} {es : List Ent} (h : Has w l) (hm : entS v es ∈ l) (hne : es ≠ []) :
    ∃ g c, v = .slice (some ⟨g, 0, none⟩) es.length c ∧ ∀ j u, (es.flatMap Ent.cells)[j]? = some u → w.cell? ⟨g, 0 + j, none⟩ = some u := by
  obtain ⟨h1, h2⟩ := h.row_own hm
  rcases h2 with ⟨rfl, h0⟩ | ⟨g, cap, cur, rfl, _, hg, hn, hc, hs, ht⟩
  · exact absurd (List.eq_nil_of_length_eq_zero h0) hne
  · refine ⟨g, cap, rfl, fun j u hu => ?_⟩
    rw [Nat.zero_add]
    refine cell_of hg j ?_
    rw [← ht, List.getElem?_take] at hu
    split at hu
    · simpa using hu
    · cases hu
theorem space_copied {w : World} {l : List Say} {v : Value} {es : List Ent} (h : Has w l) (hm : entS v es ∈ l) (hok : OkEnts es) (hne : es ≠ []) :
    Calls Tryz.prog 91 #[.agg #[v]] w (EntPost w es l) := by
  have hl := hok.len
  obtain ⟨g, c, rfl, hc⟩ := h.ent_cells hm hne
  obtain ⟨W, hW⟩ : ∃ W, W = (w.alloc (.cells #[.slice (some ⟨g, 0, none⟩) es.length c] 58)).alloc (.cells #[.slice none 0 0] 58) := ⟨_, rfl⟩
  have hWc : ∀ j u, (es.flatMap Ent.cells)[j]? = some u → W.cell? ⟨g, 0 + j, none⟩ = some u := fun j u hu => by
    have hlt := World.block_lt_of_cell? _ _ (hc j u hu)
    have hlt : g < w.heap.size := hlt
    rw [hW, World.cell?_alloc_lt _ _ _ (by simp; omega), World.cell?_alloc_lt _ _ _ hlt]
    exact hc j u hu
  have hWh : Has W (pts (w.heap.size + 1) (.cells #[.slice none 0 0] 58) :: l) := by
    rw [hW]
    have := (h.alloc_off (.cells #[.slice (some ⟨g, 0, none⟩) es.length c] 58)).alloc (.cells #[.slice none 0 0] 58)
    simpa using this
  have HC := Lib.hid (clone_ent hWh g 0 es.length c (es.flatMap Ent.cells) (flat_len es) hWc (ent_one es) (by simp [maxLen]; omega) (by omega))
  have HK : Hid (Kept w W) := by rw [hW]; exact ((Kept.refl w).alloc _).alloc _
  clear hWh hWc hc h hm hok
  go_enter Tryz.func91, Tryz.ntmps91
  go_wp2_with fail
  rw [← hW]
  refine HC.out.mono ?_
  rintro r w1 ⟨v1, rfl, hK, h1⟩
  have hp := h1.swap.got
  have f1 := thaw_of hp 0
  have c1 : w1.cell? ⟨w.heap.size + 1, 0, none⟩ = some (.slice none 0 0) := cell_of hp 0 rfl
  obtain ⟨a1, k1, rfl, _⟩ := h1.row_val (v := v1) (.head _)
  have H2 := Lib.hid (h1.swap.setCell 0 (.slice a1 es.length k1))
  have HK1 := Lib.hid hK
  have hz : w.heap.size + 1 < w1.heap.size := World.block_lt_of_cell? _ _ c1
  clear h1 hK hp
  go_wp2
  refine bodyPost_ret (v := .agg #[.slice a1 es.length k1]) (by simp [results, Tryz.results91, go_sem, c1]) rfl ⟨.slice a1 es.length k1, rfl, (HK.out.trans HK1.out).setCell _ _, ?_⟩
  exact H2.out.tail
end Go.Proofs.YtgbgneiciabidaaGreatDoor
