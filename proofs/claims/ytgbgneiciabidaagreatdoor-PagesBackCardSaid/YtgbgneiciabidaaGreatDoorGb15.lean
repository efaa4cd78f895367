/-
  The document's bank: New, Add (its disks' content is nobody's matter).
-/
import Derived.Test.YtgbgneiciabidaaGreatDoorGb7
import Derived.Deep.OwnRows
import Derived.Test.YtgbgneiciabidaaGreatDoorGbxFrame
import Derived.Deep.RegionLaw
import Derived.Test.YtgbgneiciabidaaGreatDoorGb13
import Derived.Test.YtgbgneiciabidaaGreatDoorGb14
import Derived.Test.YtgbgneiciabidaaGreatDoorGb6
import Derived.Deep.RegionHeld3
namespace Go.Proofs.YtgbgneiciabidaaGreatDoor
open Go Go.RowKit
set_option linter.unusedVariables false
set_option linter.unusedSimpArgs false

def ZeroPost (w : World) (r : Ending) (w' : World) : Prop := ∃ a n c, r = .returned (.agg #[.slice a n c, .bool false]) ∧ Below w.heap.size w w'
theorem ref_zero {w : World} : Calls Tryz.prog 217 #[] w (ZeroPost w) := by
  have hmk : ∀ w : World, (Instr.makeSlice 141 (.int .i64 128) (.int .i64 128)).run Tryz.prog w = .ok (.slice (some ⟨w.heap.size, 0, none⟩) 128 128) (w.alloc (.cells (madeCells #[.int .u8 0] 128) 5)) :=
    run_make_row' (P := Tryz.prog) 141 5 (.int .u8 0) 1 Tryz.underlying141 info_u8 rfl .i64 .i64 128 (by omega) (by omega)
  go_enter Tryz.func217, Tryz.ntmps217
  go_wp2
  have hb : Below w.heap.size w (((w.alloc (.cells #[.slice (some ⟨w.heap.size + 1 + 1, 0, none⟩) 1 1, .bool false] 320)).alloc (.cells (madeCells #[.int .u8 0] 128) 5)).alloc (.cells #[.slice (some ⟨w.heap.size + 1, 0, none⟩) 128 128] 141)) :=
    (((Below.refl _ _).alloc (Nat.le_refl _) _).alloc (by simp) _).alloc (by simp; omega) _
  have z0 : (((w.alloc (.cells #[.slice (some ⟨w.heap.size + 1 + 1, 0, none⟩) 1 1, .bool false] 320)).alloc (.cells (madeCells #[.int .u8 0] 128) 5)).alloc (.cells #[.slice (some ⟨w.heap.size + 1, 0, none⟩) 128 128] 141)).cell? ⟨w.heap.size, 0, none⟩ = some (.slice (some ⟨w.heap.size + 1 + 1, 0, none⟩) 1 1) := by
    rw [World.cell?_alloc_lt _ _ _ (by simp; omega), World.cell?_alloc_lt _ _ _ (by simp)]; exact World.cell?_alloc_new _ _ _ 0
  have z1 : (((w.alloc (.cells #[.slice (some ⟨w.heap.size + 1 + 1, 0, none⟩) 1 1, .bool false] 320)).alloc (.cells (madeCells #[.int .u8 0] 128) 5)).alloc (.cells #[.slice (some ⟨w.heap.size + 1, 0, none⟩) 128 128] 141)).cell? ⟨w.heap.size, 1, none⟩ = some (.bool false) := by
    rw [World.cell?_alloc_lt _ _ _ (by simp; omega), World.cell?_alloc_lt _ _ _ (by simp)]; exact World.cell?_alloc_new _ _ _ 1
  refine bodyPost_ret (v := .agg #[.slice (some ⟨w.heap.size + 1 + 1, 0, none⟩) 1 1, .bool false]) (by simp [results, Tryz.results217, go_sem, z0, z1]) rfl ⟨_, _, _, rfl, hb⟩

def refBankS (b n : Nat) : Say := ex fun x : Value × List Value × Int => all [pts b (.cells #[x.1, .int .i64 (-1), .bool false, .int .i64 x.2.2] 222 (0, 0)), rowS 226 1 x.1 n x.2.1]
def RefNew (l : List Say) (w : World) (r : Ending) (w' : World) : Prop := ∃ b, r = .returned (.pointer (some ⟨b, 0, none⟩)) ∧ Kept w w' ∧ Has w' (refBankS b 0 :: l)
theorem ref_BankNew {w : World} {l : List Say} (h : Has w l) : Calls Tryz.prog 70 #[] w (RefNew l w) := by
  have h1 := (h.alloc (.cells #[.slice none 0 0, .int .i64 (-1), .bool false, .int .i64 0] 222)).row_nil 226 1
  have HB : Hid (Has (w.alloc (.cells #[.slice none 0 0, .int .i64 (-1), .bool false, .int .i64 0] 222)) (refBankS w.heap.size 0 :: l)) := Has.chosen (.slice none 0 0, [], 0) h1.swap.unite
  clear h h1
  go_enter Tryz.func70, Tryz.ntmps70
  go_wp2
  go_ret
  exact ⟨_, rfl, (Kept.refl w).alloc _, HB.out⟩
end Go.Proofs.YtgbgneiciabidaaGreatDoor
/-
  The document's bank, the second part: disks, Add.
-/
namespace Go.Proofs.YtgbgneiciabidaaGreatDoor
open Go Go.RowKit
set_option linter.unusedVariables false
set_option linter.unusedSimpArgs false

theorem info_refsec : (Tryz.prog.info? 320).map (fun i => (i.zero, i.size, i.bytes)) = some (some (.agg #[.slice none 0 0, .bool false]), 2, 32) := by kernel_rfl
def RDMid (w : World) (d : Nat) (l : List Say) (k : Nat) (wx : World) : Prop := ∃ v xs, Kept w wx ∧ Has wx (pts d (.cells #[v] 281 (0, 0)) :: rowS 320 2 v k xs :: l)
def RDPost (w : World) (d : Nat) (l : List Say) (k : Nat) (r : Ending) (wx : World) : Prop := r = .returned (.tuple #[]) ∧ RDMid w d l k wx

set_option maxHeartbeats 2000000 in
set_option maxRecDepth 100000 in
theorem ref_more {w : World} {l : List Say} {d : Nat} (h : Has w (pts d (.cells #[.slice none 0 0] 281 (0, 0)) :: l)) (n : Nat) (hn : n ≤ 4096) :
    Calls Tryz.prog 189 #[.pointer (some ⟨d, 0, none⟩), .int .i64 (n : Int)] w (RDPost w d l n) := by
  obtain ⟨i0, I1, I2, I3, I4⟩ := info_parts info_refsec
  have H0 : Hid (RDMid w d l 0 w) := ⟨.slice none 0 0, [], Kept.refl w, (h.row_nil _ _).swap⟩
  clear h
  go_enter Tryz.func189, Tryz.ntmps189
  go_wp2
  go_loopg [4] n (fun gk i wr => ∃ k : Nat, k ≤ n ∧ gk = n - k ∧ i = .int .i64 k ∧ Hid (RDMid w d l k wr))
  case atStart => exact ⟨0, Nat.zero_le _, rfl, rfl, H0⟩
  case round =>
    clear H0
    obtain ⟨k, hk, rfl, rfl, HM⟩ := hrel
    by_cases hlt : k < n
    · obtain ⟨v, xs, hK, hh⟩ := HM.out
      obtain ⟨a, c, rfl, _⟩ := hh.row_val (e := 320) (size := 2) (v := v) (n := k) (xs := xs) (.tail _ (.head _))
      have s0 : wr.cell? ⟨d, 0, none⟩ = some (.slice a k c) := cell_of hh.got 0 rfl
      have ls := World.block_lt_of_cell? _ _ s0
      have HW := Lib.hid hh.drew
      have HK := Lib.hid hK.drew
      have HZ := Lib.hid (ref_zero (w := wr.drew))
      clear hh hK HM
      go_wp2_with fail
      go_region_law (first
        | (go_loud (refine step_append_row rfl (.tmp 14) (.tmp 16) 279 rfl 320 i0 (.agg #[.slice none 0 0, .bool false]) 2 32 Tryz.underlying279 I1 I2 I3 I4 rfl (by decide) (.slice a k c) k xs rfl (HRow.out.alloc_off _) ⟨_, 0, none⟩ 1 1 [.slice za zn zc, .bool false] rfl rfl (many_new _ [.slice za zn zc, .bool false] _ rfl) (by intro u hu; simp at hu; rcases hu with rfl | rfl <;> rfl) (by simp [maxLen]; omega) (by omega) ?_)
           intro v2 V2 hK2 h2; obtain ⟨a2, c2, rfl, _⟩ := h2.row_val (e := 320) (size := 2) (n := k + 1) (v := v2) (xs := xs ++ [.slice za zn zc, .bool false]) (.head _); have hp2 := h2.swap.got; have s1'' := cell_of hp2 0 rfl; have f1'' := thaw_of hp2 0; have H5 := Lib.hid h2; have HK5 := Lib.hid hK2; clear h2 hK2 hp2)
        | (go_simp; go_at_call 217; refine HZ.out.mono ?_; rintro r V ⟨za, zn, zc, rfl, hb⟩; have hv := HW.out.below hb; have s1' := cell_of hv.got 0 rfl; have l1' := World.block_lt_of_cell? _ _ s1'; have HRow : Hid (Has V (rowS 320 2 (.slice a k c) k xs :: pts d (.cells #[.slice a k c] 281 (0, 0)) :: l)) := hv.swap; have HK4 := Lib.hid (HK.out.trans (Kept.below hb)); clear hv hb))
      all_goals
        go_wp2
        go_roundg (n - (k + 1))
        case measure => omega
        case rel => exact ⟨k + 1, by omega, rfl, by simp, _, _, ((HK4.out.alloc _).trans HK5.out).setCell _ _, (H5.out.swap).setCell 0 (.slice a2 (k + 1) c2)⟩
    · obtain rfl : k = n := by omega
      go_wp2
      go_end0
      exact ⟨rfl, HM.out⟩

def RDNew (l : List Say) (w : World) (r : Ending) (w' : World) : Prop := ∃ d, r = .returned (.pointer (some ⟨d, 0, none⟩)) ∧ Kept w w' ∧ Has w' l
theorem ref_DiskNew {w : World} {l : List Say} (h : Has w l) (n : Nat) (h1 : 1 ≤ n) (hn : n ≤ 4096) : Calls Tryz.prog 131 #[.int .i64 (n : Int)] w (RDNew l w) := by
  have hA := h.alloc (.cells #[.slice none 0 0] 281)
  have HMo := Lib.hid (ref_more hA n hn)
  have HK : Hid (Kept w (w.alloc (.cells #[.slice none 0 0] 281))) := (Kept.refl w).alloc _
  have d1 : decide ((n : Int) < 1) = false := by simp; omega
  have d2 : decide ((4096 : Int) < n) = false := by simp; omega
  clear h hA
  go_enter Tryz.func131, Tryz.ntmps131
  go_wp2_with fail
  refine HMo.out.mono ?_
  rintro r w1 ⟨rfl, v, xs, hK, hh⟩
  have HF : Hid (Kept w w1 ∧ Has w1 l) := ⟨HK.out.trans hK, hh.tail.tail⟩
  clear hK hh HMo
  go_wp2
  go_ret
  exact ⟨_, rfl, HF.out⟩

theorem info_refdisk : (Tryz.prog.info? 226).map (fun i => (i.zero, i.size, i.bytes)) = some (some (.pointer none), 1, 8) := by kernel_rfl
def RefAdd (b n : Nat) (l : List Say) (w : World) (r : Ending) (w' : World) : Prop := ∃ x, r = .returned (.tuple #[.int .i64 x, .int .i64 0]) ∧ Kept w w' ∧ Has w' (refBankS b (n + 1) :: l)
set_option maxRecDepth 100000 in
theorem ref_BankAdd {w : World} {l : List Say} {b m : Nat} (h : Has w (refBankS b m :: l)) (hm : m < 8) (n : Nat) (h1 : 1 ≤ n) (hn : n ≤ 4096) :
    Calls Tryz.prog 73 #[.pointer (some ⟨b, 0, none⟩), .int .i64 (n : Int)] w (RefAdd b m l w) := by
  obtain ⟨⟨v, xs, done⟩, hh⟩ := h.opened
  have hh := hh.split
  simp only [List.cons_append, List.nil_append] at hh
  obtain ⟨a, c, rfl, _⟩ := hh.row_val (e := 226) (size := 1) (v := v) (n := m) (xs := xs) (.tail _ (.head _))
  have c0 : w.cell? ⟨b, 0, none⟩ = some (.slice a m c) := cell_of hh.got 0 rfl
  have c2 : w.cell? ⟨b, 2, none⟩ = some (.bool false) := cell_of hh.got 2 rfl
  have lb := World.block_lt_of_cell? _ _ c0
  have d1 : decide ((8 : Int) ≤ (m : Int)) = false := by simp; omega
  have HN := Lib.hid (ref_DiskNew hh n h1 hn)
  obtain ⟨i0, I1, I2, I3, I4⟩ := info_parts info_refdisk
  clear h hh
  go_enter Tryz.func73, Tryz.ntmps73
  go_wp2_with fail
  refine HN.out.mono ?_
  rintro r w1 ⟨d, rfl, hK, h3⟩
  have c0 : w1.cell? ⟨b, 0, none⟩ = some (.slice a m c) := cell_of h3.got 0 rfl
  have lb := World.block_lt_of_cell? _ _ c0
  have H3 := Lib.hid h3.swap
  have HK3 := Lib.hid hK
  clear hK h3 HN c2
  go_wp2_with (at_builtin; go_loud (refine wpList_append_row (l := pts b (.cells #[.slice a m c, .int .i64 (-1), .bool false, .int .i64 done] 222 (0, 0)) :: l) rfl (.tmp 25) (.tmp 27) 220 rfl 226 i0 (.pointer none) 1 8 Tryz.underlying220 I1 I2 I3 I4 rfl (by decide) _ m xs rfl ?hown ⟨_, 0, none⟩ 1 1 [ptrOf d] rfl rfl ?hnews ?hone ?h63 ?hby ?next))
  case hown => exact H3.out.alloc_off _
  case hnews => exact one_new _ _ _
  case hone => intro u hu; simp at hu; subst hu; rfl
  case h63 => simp [maxLen]; omega
  case hby => omega
  case next =>
    intro v2 w4 hK4 h4
    obtain ⟨a2, c2, rfl, _⟩ := h4.row_val (e := 226) (size := 1) (n := m + 1) (v := v2) (xs := xs ++ [ptrOf d]) (.head _)
    have hp := h4.swap.got
    have c0 : w4.cell? ⟨b, 0, none⟩ = some (.slice a m c) := cell_of hp 0 rfl
    have f0 := thaw_of hp 0
    have HF : Hid (Kept w (w4.setCell ⟨b, 0, none⟩ (.slice a2 (m + 1) c2)) ∧ Has (w4.setCell ⟨b, 0, none⟩ (.slice a2 (m + 1) c2)) (refBankS b (m + 1) :: l)) :=
      ⟨((HK3.out.alloc _).trans hK4).setCell _ _, Has.chosen (.slice a2 (m + 1) c2, xs ++ [ptrOf d], done) (h4.swap.setCell 0 (.slice a2 (m + 1) c2)).unite⟩
    clear hK4 h4 hp
    go_wp2
    go_ret2
    exact ⟨_, rfl, HF.out.1, HF.out.2⟩
end Go.Proofs.YtgbgneiciabidaaGreatDoor
/-
  Law 11, plain: what a fresh space gives first.
-/
namespace Go.Proofs.YtgbgneiciabidaaGreatDoor
open Go Go.RowKit
set_option linter.all false

theorem fresh_takes {n d k : Nat} {y : Shelf} (h : Takes (freshSpc [⟨1, n⟩]) d k y) : d = 0 ∧ k = 2 := by
  have hs := h.shelf
  have hd : d = 0 := by
    have := (List.getElem?_eq_some_iff.1 hs).1
    simp [freshSpc] at this
    exact this
  subst hd
  have hy : y = emptyShelf n := by simpa [freshSpc] using hs.symm
  subst hy
  refine ⟨rfl, ?_⟩
  have hlo := h.lo
  by_cases e : k = 2
  · exact e
  · have := h.least 2 (by omega) (by omega)
    simp [Shelf.busy, emptyShelf] at this
theorem holds_none (B : Int) : HoldsTo [] B := by
  intro k g h
  simp [VMap.get] at h
theorem fits_fresh (sizes : List Nat) (hb : ∀ n ∈ sizes, n ≤ 4096) : Fits (freshSpc (sizes.map fun n => ⟨1, n⟩)) (sizes.map fun n => List.replicate n zeros) [] := by
  refine ⟨by simp [freshSpc], ?_, ?_, ?_⟩
  · intro d y secs hy hs
    simp only [freshSpc, List.map_map, List.getElem?_map] at hy hs
    cases hq : sizes[d]? with
    | none => rw [hq] at hy; cases hy
    | some n => rw [hq] at hy hs; cases hy; cases hs; simp [emptyShelf]
  · intro d k y _ _ _; simp [VMap.get]
  · intro d y hy
    simp only [freshSpc, List.map_map, List.getElem?_map] at hy
    cases hq : sizes[d]? with
    | none => rw [hq] at hy; cases hy
    | some n => rw [hq] at hy; cases hy; exact hb n (List.mem_of_getElem? hq)
theorem cntTo_nil0 : ∀ n, cntTo (fun _ => false) n = 0
  | 0 => rfl
  | n + 1 => by rw [cntTo, cntTo_nil0 n]; rfl
theorem fresh_room {n : Nat} (h : 3 ≤ n) : ¬ ∀ d ∈ actives (freshSpc [⟨1, n⟩]).es, (freshSpc [⟨1, n⟩]).free d = 0 := by
  intro hall
  have h0 := hall 0 (by simp [actives, freshSpc, idxTo])
  have hu : (emptyShelf n).used = 0 := by simp [Shelf.used, emptyShelf, cntTo_nil0]
  simp [Spc.free, freshSpc, hu] at h0
  omega
end Go.Proofs.YtgbgneiciabidaaGreatDoor
/-
  Law 11: numbers that came in; the copy of a node that came in ('of').
-/
namespace Go.Proofs.YtgbgneiciabidaaGreatDoor
open Go Go.RowKit
set_option linter.all false

/-- Numbers that came in: nil, or they lie somewhere. -/
def Src (w : World) (v : Value) (xs : List Int) : Prop := (v = .slice none 0 0 ∧ xs = []) ∨ ∃ (a : Addr) (c : Nat), v = .slice (some a) xs.length c ∧ ∀ k (hk : k < xs.length), w.cell? (a.add k) = some (.int .i64 xs[k])
theorem Src.rd {w : World} {v : Value} {xs : List Int} (h : Src w v xs) : Rd w v xs := by
  rcases h with ⟨rfl, rfl⟩ | ⟨⟨b, off, sp⟩, c, rfl, hr⟩
  · exact ⟨none, 0, rfl, fun k hk => absurd hk (Nat.not_lt_zero _)⟩
  · refine ⟨_, c, rfl, fun k hk => ?_⟩
    have h0 := hr 0 (by omega)
    have hs : sp = none := by
      cases sp with
      | none => rfl
      | some x =>
        exfalso
        unfold World.cell? Addr.add at h0
        simp at h0
        split at h0 <;> simp at h0
    subst hs
    refine ⟨b, off, rfl, ?_⟩
    have := hr k hk
    rwa [Addr.add_lit] at this
theorem Src.below {w w' : World} {v : Value} {xs : List Int} (h : Src w v xs) (hb : Below w.heap.size w w') : Src w' v xs := by
  rcases h with h | ⟨a, c, rfl, hr⟩
  · exact .inl h
  · exact .inr ⟨a, c, rfl, fun k hk => by
      have h1 := hr k hk
      have hlt := World.block_lt_of_cell? _ _ h1
      rw [hb.cell hlt]; exact h1⟩
theorem Src.of_old {W w : World} {l : List Say} {v : Value} {xs : List Int} (h : Src W v xs) (hw : Has w l) (hm : old W ∈ l) : Src w v xs := by
  rcases h with h | ⟨a, c, rfl, hr⟩
  · exact .inl h
  · exact .inr ⟨a, c, rfl, fun k hk => hw.old_cell hm (hr k hk)⟩

theorem run_append_src {w : World} {l : List Say} (ty : TypeId) {v x : Value} {xs ns : List Int} (h : Has w (intsS v xs :: l)) (hs : Src w x ns) (hb : (xs.length + ns.length) * 8 ≤ 140737488355328) :
    ∃ v' w', (Builtin.append_ #[22, 22] ty #[v, x]).run Tryz.prog w = .ok v' w' ∧ Kept w w' ∧ Has w' (intsS v' (xs ++ ns) :: l) := by
  obtain ⟨i0, I1, I2, I3, I4⟩ := info_parts info_int
  rcases hs with ⟨rfl, rfl⟩ | ⟨a, c, rfl, hr⟩
  · refine ⟨v, w, run_append_owned_none (P := Tryz.prog) (w := w) 0 22 ty 3 i0 1 Tryz.underlying22 I1 v xs.length (xs.map intVal) (h.row_own (.head _)), Kept.refl _, ?_⟩
    rw [List.append_nil]; exact h
  · obtain ⟨v', w', hr2, hK, hh⟩ := run_append_row (P := Tryz.prog) 22 ty 3 i0 (.int .i64 0) 1 8 Tryz.underlying22 I1 I2 I3 I4 rfl (by decide) v xs.length (xs.map intVal) h a ns.length c (ns.map intVal) (by simp)
      (fun j u hu => by
        have hj : j < ns.length := by have := (List.getElem?_eq_some_iff.1 hu).1; simpa using this
        rw [hr j hj]
        rw [List.getElem?_map, List.getElem?_eq_getElem hj] at hu
        exact hu) (ints_one ns) (by simp [maxLen]; omega) hb
    refine ⟨v', w', hr2, hK, ?_⟩
    rw [intsS, List.length_append, List.map_append]; exact hh
theorem step_append_src {w : World} {l : List Say} {ops : Array Oper} {o : Oper} {a : Act} {K : Act → World → Prop} {Q : Exit → Act → World → Prop} {E : Prop} (hgd : o.guard = none) (s x : Operand)
    (ho : o.op = .call { callee := .builtin .append, args := #[s, x], argTypes := #[22, 22] })
    {v vx : Value} {xs ns : List Int} (hv : a.eval s = v) (hx : a.eval x = vx) (h : Has w (intsS v xs :: l)) (hs : Src w vx ns) (hb : (xs.length + ns.length) * 8 ≤ 140737488355328)
    (hk : ∀ v' w', Kept w w' → Has w' (intsS v' (xs ++ ns) :: l) → K (a.put o.dst v') w') : if Region.wanted o (yielded ops a.tmps) = true then Oper.wp Tryz.prog o a w K Q else E := by
  have hw : Region.wanted o (yielded ops a.tmps) = true := by simp [Region.wanted, hgd]
  rw [if_pos hw]
  obtain ⟨v', w', hr, h2, h3⟩ := run_append_src o.type h hs hb
  unfold Oper.wp execOp
  simp only [ho, resolve, invoke, builtin, Sem.run_bind, Sem.run_pure, Result.andThen_ok, List.map_toArray, List.map_cons, List.map_nil, hv, hx, hr]
  exact hk v' w' h2 h3
theorem wpList_append_src {w : World} {l : List Say} {ops : Array Oper} {rest : List Oper} {o : Oper} {a : Act} {Q : Exit → Act → World → Prop} (hgd : o.guard = none) (s x : Operand)
    (ho : o.op = .call { callee := .builtin .append, args := #[s, x], argTypes := #[22, 22] })
    {v vx : Value} {xs ns : List Int} (hv : a.eval s = v) (hx : a.eval x = vx) (h : Has w (intsS v xs :: l)) (hs : Src w vx ns) (hb : (xs.length + ns.length) * 8 ≤ 140737488355328)
    (hk : ∀ v' w', Kept w w' → Has w' (intsS v' (xs ++ ns) :: l) → wpList Tryz.prog ops Q rest (a.put o.dst v') w') : wpList Tryz.prog ops Q (o :: rest) a w := by
  refine wpList_plain hgd fun K hK => ?_
  obtain ⟨v', w', hr, h2, h3⟩ := run_append_src o.type h hs hb
  unfold Oper.wp execOp
  simp only [ho, resolve, invoke, builtin, Sem.run_bind, Sem.run_pure, Result.andThen_ok, List.map_toArray, List.map_cons, List.map_nil, hv, hx, hr]
  exact hK _ _ (hk v' w' h2 h3)
/-- An empty row that is new. -/
theorem Has.empty {w : World} {l : List Say} (h : Has w l) : Has (w.alloc (.cells #[] 3)) (intsS (.slice (some ⟨w.heap.size, 0, none⟩) 0 0) [] :: l) :=
  (h.alloc (.cells #[] 3)).row_of_pts (by simp) (by simp) (by simp [maxLen]) (by simp) (by simp)

/-- Numbers that can be read wherever l holds. -/
def Srcs (l : List Say) (v : Value) (xs : List Int) : Prop := ∀ w, Has w l → Src w v xs
theorem Srcs.of_old {W : World} {l : List Say} {v : Value} {xs : List Int} (h : Src W v xs) (hm : old W ∈ l) : Srcs l v xs := fun w hw => h.of_old hw hm
theorem Srcs.of_ints {l : List Say} {v : Value} {xs : List Int} (hm : intsS v xs ∈ l) : Srcs l v xs := by
  intro w h
  obtain ⟨h1, h2⟩ := h.row_own hm
  rcases h2 with ⟨rfl, h0⟩ | ⟨g, cap, cur, rfl, _, hg, hn, hc, hs, ht⟩
  · obtain rfl := List.eq_nil_of_length_eq_zero h0
    exact .inl ⟨rfl, rfl⟩
  · refine .inr ⟨⟨g, 0, none⟩, cap, rfl, fun k hk => ?_⟩
    rw [Addr.add_lit, Nat.zero_add]
    refine cell_of hg k ?_
    have e : (xs.map intVal)[k]? = some (intVal xs[k]) := by rw [List.getElem?_map, List.getElem?_eq_getElem hk]; rfl
    rw [← ht, List.getElem?_take_of_lt (by omega)] at e
    simpa [intVal] using e
theorem Srcs.cons {A : Say} {l : List Say} {v : Value} {xs : List Int} (h : Srcs l v xs) : Srcs (A :: l) v xs := fun w hw => h w hw.tail

def OfPost (n : Nd) (l : List Say) (w : World) (r : Ending) (w' : World) : Prop :=
  ∃ kv vv, r = .returned (n.val kv vv) ∧ Kept w w' ∧ Has w' (intsS kv n.keys :: intsS vv n.vals :: l)

theorem step_append_srcs {w : World} {l : List Say} {ops : Array Oper} {o : Oper} {a : Act} {K : Act → World → Prop} {Q : Exit → Act → World → Prop} {E : Prop} (hgd : o.guard = none) (s x : Operand)
    (ho : o.op = .call { callee := .builtin .append, args := #[s, x], argTypes := #[22, 22] })
    {v vx : Value} {xs ns : List Int} (h : Has w (intsS v xs :: l)) (hs : Srcs l vx ns) (hv : a.eval s = v) (hx : a.eval x = vx) (hb : (xs.length + ns.length) * 8 ≤ 140737488355328)
    (hk : ∀ v' w', Kept w w' → Has w' (intsS v' (xs ++ ns) :: l) → K (a.put o.dst v') w') : if Region.wanted o (yielded ops a.tmps) = true then Oper.wp Tryz.prog o a w K Q else E :=
  step_append_src hgd s x ho hv hx h (hs w h.tail) hb hk

set_option maxHeartbeats 1000000 in
set_option maxRecDepth 100000 in
theorem law_of {w : World} {l : List Say} (n : Nd) {kv vv : Value} (h : Has w l) (hk : Srcs l kv n.keys) (hv : Srcs l vv n.vals) (k1 : n.keys.length * 8 ≤ 140737488355328) (v1 : n.vals.length * 8 ≤ 140737488355328) :
    Calls Tryz.prog 18 #[n.val kv vv] w (OfPost n l w) := by
  have hW := (h.alloc (.cells #[.int .i64 n.level, kv, vv] 24)).alloc (.cells #[.int .i64 0, .slice none 0 0, .slice none 0 0] 35)
  have HK0 : Hid (Kept w ((w.alloc (.cells #[.int .i64 n.level, kv, vv] 24)).alloc (.cells #[.int .i64 0, .slice none 0 0, .slice none 0 0] 35))) := ((Kept.refl w).alloc _).alloc _
  simp only [World.size_alloc] at hW
  have hb1 := hW.tail.got
  have hb0 := hW.got
  have d0 := cell_of hb1 0 rfl
  have d1 := cell_of hb1 1 rfl
  have d2 := cell_of hb1 2 rfl
  have ld := World.block_lt_of_cell? _ _ d0
  have H0 := Lib.hid hW
  have Hk := Lib.hid hk
  have Hv := Lib.hid hv
  have Hk1 : Hid ((([] : List Int).length + n.keys.length) * 8 ≤ 140737488355328) := by show _ ≤ _; simpa using k1
  have Hv1 : Hid ((([] : List Int).length + n.vals.length) * 8 ≤ 140737488355328) := by show _ ≤ _; simpa using v1
  clear h hk hv hb1 hb0 hW k1 v1
  obtain ⟨lv, ks, vs⟩ := n
  simp only [Nd.val] at *
  go_enter Tryz.func18, Tryz.ntmps18
  go_upto_region 1 with fail
  generalize hWW : (w.alloc (.cells #[.int .i64 lv, kv, vv] 24)).alloc (.cells #[.int .i64 0, .slice none 0 0, .slice none 0 0] 35) = W at *
  clear hWW
  have hne : w.heap.size + 1 ≠ w.heap.size := by omega
  generalize hbx1 : w.heap.size + 1 = bz at *
  generalize w.heap.size = bx at *
  have h2 := H0.out.empty.empty
  simp only [World.size_alloc] at h2
  have HE := Lib.hid h2
  have HE' := Lib.hid h2.swap
  clear h2
  go_region_held3 (fun w' => w'.cell? ⟨bx, 0, none⟩ = some (.int .i64 lv) ∧ w'.cell? ⟨bx, 1, none⟩ = some kv ∧ w'.cell? ⟨bx, 2, none⟩ = some vv) (first | with_reducible exact ⟨m0, m1, m2⟩ | with_reducible exact ⟨d0', d1', d2'⟩ | with_reducible exact ⟨d0, d1, d2⟩ | with_reducible exact ⟨far3 hne _ _ _ _ m0, far3 hne _ _ _ _ m1, far3 hne _ _ _ _ m2⟩ | go_keep)
    (first
      | ((with_reducible refine step_append_srcs ?_ (.tmp 5) (.tmp 7) ?_ H0.out.empty.drew Hk.out.cons.cons ?_ ?_ Hk1.out ?_); rfl; rfl; rfl; rfl; intro v1 V1 hK1 hh1; rw [List.nil_append] at hh1; obtain ⟨aK, cK, rfl, _⟩ := hh1.row_val (e := 3) (size := 1) (v := v1) (n := ks.length) (xs := ks.map intVal) (.head _); have hq1 := (hh1.pull 2).got; have d0' := cell_of hq1 0 rfl; have d1' := cell_of hq1 1 rfl; have d2' := cell_of hq1 2 rfl; have ld' := World.block_lt_of_cell? _ _ d0'; have HasK := Lib.hid hh1; have HK1 := Lib.hid hK1; clear hh1 hK1 hq1)
      | ((with_reducible refine step_append_srcs ?_ (.tmp 5) (.tmp 7) ?_ HE'.out.drew Hk.out.cons.cons.cons ?_ ?_ Hk1.out ?_); rfl; rfl; rfl; rfl; intro v1 V1 hK1 hh1; rw [List.nil_append] at hh1; obtain ⟨aK, cK, rfl, _⟩ := hh1.row_val (e := 3) (size := 1) (v := v1) (n := ks.length) (xs := ks.map intVal) (.head _); have hq1 := (hh1.pull 3).got; have d0' := cell_of hq1 0 rfl; have d1' := cell_of hq1 1 rfl; have d2' := cell_of hq1 2 rfl; have ld' := World.block_lt_of_cell? _ _ d0'; have HasK := Lib.hid hh1; have HK1 := Lib.hid hK1; clear hh1 hK1 hq1)
      | ((with_reducible refine step_append_srcs ?_ (.tmp 5) (.tmp 7) ?_ HE.out.drew Hk.out.cons.cons.cons ?_ ?_ Hk1.out ?_); rfl; rfl; rfl; rfl; intro v1 V1 hK1 hh1; rw [List.nil_append] at hh1; obtain ⟨aK, cK, rfl, _⟩ := hh1.row_val (e := 3) (size := 1) (v := v1) (n := ks.length) (xs := ks.map intVal) (.head _); have hq1 := (hh1.pull 3).got; have d0' := cell_of hq1 0 rfl; have d1' := cell_of hq1 1 rfl; have d2' := cell_of hq1 2 rfl; have ld' := World.block_lt_of_cell? _ _ d0'; have HasK := Lib.hid hh1; have HK1 := Lib.hid hK1; clear hh1 hK1 hq1)
      | ((with_reducible refine step_append_srcs ?_ (.tmp 9) (.tmp 11) ?_ HasK.out.empty Hv.out.cons.cons.cons ?_ ?_ Hv1.out ?_); rfl; rfl; rfl; rfl; intro v2 V2 hK2 hh2; rw [List.nil_append] at hh2; obtain ⟨aV, cV, rfl, _⟩ := hh2.row_val (e := 3) (size := 1) (v := v2) (n := vs.length) (xs := vs.map intVal) (.head _); have hq2 := (hh2.pull 2).got; have e0 := cell_of hq2 0 rfl; have e1 := cell_of hq2 1 rfl; have e2 := cell_of hq2 2 rfl; have f0 := thaw_of hq2 0; have f1 := thaw_of hq2 1; have f2 := thaw_of hq2 2; have le := World.block_lt_of_cell? _ _ e0; have hq3 := (hh2.pull 3).got; have m0 := cell_of hq3 0 rfl; have m1 := cell_of hq3 1 rfl; have m2 := cell_of hq3 2 rfl; have HR := Lib.hid hh2.swap; have HK2 := Lib.hid hK2; clear hh2 hK2 hq2 hq3)
      | ((with_reducible refine step_append_srcs ?_ (.tmp 9) (.tmp 11) ?_ HasK.out.swap Hv.out.cons.cons.cons ?_ ?_ Hv1.out ?_); rfl; rfl; rfl; rfl; intro v2 V2 hK2 hh2; rw [List.nil_append] at hh2; obtain ⟨aV, cV, rfl, _⟩ := hh2.row_val (e := 3) (size := 1) (v := v2) (n := vs.length) (xs := vs.map intVal) (.head _); have hq2 := (hh2.pull 2).got; have e0 := cell_of hq2 0 rfl; have e1 := cell_of hq2 1 rfl; have e2 := cell_of hq2 2 rfl; have f0 := thaw_of hq2 0; have f1 := thaw_of hq2 1; have f2 := thaw_of hq2 2; have le := World.block_lt_of_cell? _ _ e0; have hq3 := (hh2.pull 3).got; have m0 := cell_of hq3 0 rfl; have m1 := cell_of hq3 1 rfl; have m2 := cell_of hq3 2 rfl; have HR := Lib.hid hh2.swap; have HK2 := Lib.hid hK2; clear hh2 hK2 hq2 hq3))
  all_goals
    go_wp2
    have h5 := ((((HR.out.pull 2).setCell 0 (.int .i64 lv)).setCell 1 (.slice aK ks.length cK)).setCell 2 (.slice aV vs.length cV))
    have hk2 : Kept w V2 := by first | exact (((HK0.out.alloc _).drew.trans HK1.out).alloc _).trans HK2.out | exact (((HK0.out.alloc _).alloc _).drew.trans HK1.out).trans HK2.out
    have hkf := ((hk2.setCell ⟨bz, 0, none⟩ (.int .i64 lv)).setCell ⟨bz, 1, none⟩ (.slice aK ks.length cK)).setCell ⟨bz, 2, none⟩ (.slice aV vs.length cV)
    generalize ((V2.setCell ⟨bz, 0, none⟩ (.int .i64 lv)).setCell ⟨bz, 1, none⟩ (.slice aK ks.length cK)).setCell ⟨bz, 2, none⟩ (.slice aV vs.length cV) = W3 at *
    have z0 : W3.cell? ⟨bz, 0, none⟩ = some (.int .i64 lv) := cell_of h5.got 0 rfl
    have z1 : W3.cell? ⟨bz, 1, none⟩ = some (.slice aK ks.length cK) := cell_of h5.got 1 rfl
    have z2 : W3.cell? ⟨bz, 2, none⟩ = some (.slice aV vs.length cV) := cell_of h5.got 2 rfl
    have h6 := (h5.tail.pull 2).tail
    refine bodyPost_ret (v := .agg #[.int .i64 lv, .slice aK ks.length cK, .slice aV vs.length cV]) (by simp [results, Tryz.results18, go_sem, z0, z1, z2]) rfl ⟨_, _, rfl, ?_, h6⟩
    exact hkf
end Go.Proofs.YtgbgneiciabidaaGreatDoor
