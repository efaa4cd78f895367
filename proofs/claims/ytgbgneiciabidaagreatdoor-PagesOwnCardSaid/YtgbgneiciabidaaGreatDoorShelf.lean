/-
  Spaces (layer 8), the first part: the shelf of one device.
-/
import Derived.Test.YtgbgneiciabidaaGreatDoorBitmapD
import Derived.Test.YtgbgneiciabidaaGreatDoorCopies
import Derived.Deep.RegionWith
import Derived.RegionTactic
import Derived.BigRegion
namespace Go.Proofs.YtgbgneiciabidaaGreatDoor
open Go Go.RowKit
set_option linter.unusedVariables false
set_option linter.unusedSimpArgs false

theorem quiet_same {P : Program} {f : FuncId} {args : Array Value} {w : World} {n : Nat} {v : Value} (h : Calls P f args (w.drewN n) fun e w' => e = .returned v ∧ w.drewN n = w') :
    Calls P f args (w.drewN n) fun e w'' => e = .returned v ∧ ∃ m, w'' = w.drewN m := h.mono fun _ _ ⟨a, b⟩ => ⟨a, n, b.symm⟩
theorem quiet_drew {P : Program} {f : FuncId} {args : Array Value} {w : World} {n : Nat} {v : Value} (h : Calls P f args (w.drewN n) fun e w' => e = .returned v ∧ ∃ m, w' = (w.drewN n).drewN m) :
    Calls P f args (w.drewN n) fun e w'' => e = .returned v ∧ ∃ m, w'' = w.drewN m := Calls.quiet_of h

def ptr (b : Nat) : Value := .pointer (some ⟨b, 0, none⟩)
/-- One device's sectors: how many, which are taken, fresh, given back. -/
structure Shelf where
  n : Nat
  taken : Nat → Bool
  fresh : Nat → Bool
  given : Nat → Bool
def Shelf.used (s : Shelf) : Nat := cntTo s.taken s.n + cntTo s.given s.n
def shelfParts (b : Nat) (s : Shelf) (x : Nat × Nat × Nat) : List Say :=
  [pts b (.cells #[.pointer (some ⟨x.1, 0, none⟩), .pointer (some ⟨x.2.1, 0, none⟩), .pointer (some ⟨x.2.2, 0, none⟩)] 180 (0, 0)), bmS x.1 s.n s.taken, bmS x.2.1 s.n s.fresh, bmS x.2.2 s.n s.given]
def shelfS (b : Nat) (s : Shelf) : Say := ex fun x : Nat × Nat × Nat => all (shelfParts b s x)
theorem Has.shelf_open {w : World} {l : List Say} {b : Nat} {s : Shelf} (h : Has w (shelfS b s :: l)) : ∃ x, Has w (shelfParts b s x ++ l) := by
  obtain ⟨x, h⟩ := h.opened
  exact ⟨x, h.split⟩
theorem Has.shelf_shut {w : World} {l : List Say} {b : Nat} {s : Shelf} {x : Nat × Nat × Nat} (h : Has w (shelfParts b s x ++ l)) : Has w (shelfS b s :: l) := Has.chosen x h.unite
/-- What whoever reads a shelf finds. -/
theorem Has.shelf_read {w : World} {l : List Say} {b : Nat} {s : Shelf} (h : Has w l) (hm : shelfS b s ∈ l) :
    ∃ x y z, w.cell? ⟨b, 0, none⟩ = some (.pointer (some ⟨x, 0, none⟩)) ∧ w.cell? ⟨b, 1, none⟩ = some (.pointer (some ⟨y, 0, none⟩)) ∧ w.cell? ⟨b, 2, none⟩ = some (.pointer (some ⟨z, 0, none⟩)) ∧
      Has w [bmS x s.n s.taken, bmS y s.n s.fresh, bmS z s.n s.given] := by
  obtain ⟨⟨x, y, z⟩, h1⟩ := (h.only hm).shelf_open
  have hb := Has.got (l := [bmS x s.n s.taken, bmS y s.n s.fresh, bmS z s.n s.given]) h1
  exact ⟨x, y, z, cell_of hb 0 rfl, cell_of hb 1 rfl, cell_of hb 2 rfl, h1.tail⟩

theorem shelf_used {w : World} {l : List Say} {b : Nat} {s : Shelf} (h : Has w l) (hm : shelfS b s ∈ l) (hn : s.n ≤ 4096) :
    Calls Tryz.prog 149 #[.pointer (some ⟨b, 0, none⟩)] w fun e w' => e = .returned (.int .i64 (s.used : Nat)) ∧ ∃ m, w' = w.drewN m := by
  obtain ⟨x, y, z, c0, c1, c2, hh⟩ := h.shelf_read hm
  have b1 := cntTo_le s.taken s.n
  have b2 := cntTo_le s.given s.n
  have HT := Lib.hid (fun n => quiet_same (bm_Count (w := w.drewN n) (hh.drewN n) (b := x) (.head _)))
  have HG := Lib.hid (fun n => quiet_same (bm_Count (w := w.drewN n) (hh.drewN n) (b := z) (.tail _ (.tail _ (.head _)))))
  have Hu : Hid (s.used = cntTo s.taken s.n + cntTo s.given s.n) := rfl
  generalize cntTo s.taken s.n = t at *
  generalize cntTo s.given s.n = g at *
  have hsum : IntKind.i64.wrap ((t : Int) + g) = (t : Int) + g := IntWalk.i64_in _ (by omega)
  clear hh h hm
  go_enter Tryz.func149, Tryz.ntmps149
  go_wp2
  go_quiet (first | (go_at_call_of 200 (some (⟨x, 0, none⟩ : Addr)); exact HT.out _) | (go_at_call 200; exact HG.out _))
  go_wp2
  go_ret
  exact ⟨by rw [Hu.out]; simp, nq, rfl⟩

theorem bm_GrowI {w : World} {l : List Say} {b n : Nat} {S : Nat → Bool} (h : Has w (bmS b n S :: l)) (m : Int) (size : Nat) (hm : (n : Int) + m = size) (h0 : 0 ≤ m) (h4 : size ≤ 4096) :
    Calls Tryz.prog 179 #[.pointer (some ⟨b, 0, none⟩), .int .i64 m] w fun e w' =>
      e = .returned .nilIface ∧ Kept w w' ∧ Has w' (bmS b size S :: l) := by
  obtain ⟨k, rfl⟩ := Int.eq_ofNat_of_zero_le h0
  have e : n + k = size := by omega
  have := bm_Grow h k (by omega)
  rw [e] at this
  exact this

set_option maxRecDepth 100000 in
theorem shelf_grow {w : World} {l : List Say} {b : Nat} {s : Shelf} (h : Has w (shelfS b s :: l)) (size : Nat) (h1 : s.n ≤ size) (h2 : size ≤ 4096) :
    Calls Tryz.prog 121 #[.pointer (some ⟨b, 0, none⟩), .int .i64 (size : Int)] w fun e w' =>
      e = .returned (.tuple #[]) ∧ Kept w w' ∧ Has w' (shelfS b { s with n := size } :: l) := by
  obtain ⟨⟨x, y, z⟩, hh⟩ := h.shelf_open
  obtain ⟨n, T, F, G⟩ := s
  simp only at h1
  simp only [shelfParts, List.cons_append, List.nil_append] at hh
  have hb := hh.got
  have c0 : w.cell? ⟨b, 0, none⟩ = some (.pointer (some ⟨x, 0, none⟩)) := cell_of hb 0 rfl
  have c1 : w.cell? ⟨b, 1, none⟩ = some (.pointer (some ⟨y, 0, none⟩)) := cell_of hb 1 rfl
  have c2 : w.cell? ⟨b, 2, none⟩ = some (.pointer (some ⟨z, 0, none⟩)) := cell_of hb 2 rfl
  have hblt : b < w.heap.size := World.block_lt_of_cell? _ _ c0
  have HH := Lib.hid hh
  clear hh hb h
  go_enter Tryz.func121, Tryz.ntmps121
  go_wp2
  go_region
  generalize hB : w.heap.size = B at *
  generalize hW : (w.alloc (.cells #[.pointer (some ⟨x, 0, none⟩), .pointer (some ⟨y, 0, none⟩), .pointer (some ⟨z, 0, none⟩)] 178)).drew = W0 at *
  have H0 : Hid (Has W0 (pts B (.cells #[.pointer (some ⟨x, 0, none⟩), .pointer (some ⟨y, 0, none⟩), .pointer (some ⟨z, 0, none⟩)] 178 (0, 0)) :: pts b (.cells #[.pointer (some ⟨x, 0, none⟩), .pointer (some ⟨y, 0, none⟩), .pointer (some ⟨z, 0, none⟩)] 180 (0, 0)) :: bmS x n T :: bmS y n F :: bmS z n G :: l)) := by
    rw [← hW, ← hB]; exact (HH.out.alloc _).drew
  have K0 : Hid (Kept w W0) := by rw [← hW]; exact ((Kept.refl w).alloc _).drew
  clear hW hB HH c0 c1 c2 hblt
  have d0 : W0.cell? ⟨B, 0, none⟩ = some (.pointer (some ⟨x, 0, none⟩)) := cell_of H0.out.got 0 rfl
  go_wp2
  refine wp_loop_rounds 4 ?_
  rw [rounds_succ]
  have L0 := Lib.hid (bm_Len (b := x) (n := n) (S := T) H0.out (.tail _ (.tail _ (.head _))))
  have G0 := Lib.hid (bm_GrowI (H0.out.pull 2) ((size : Int) - n) size (by omega) (by omega) h2)
  go_wp2_with fail
  refine L0.out.mono ?_
  rintro r w' ⟨rfl, rfl⟩
  go_wp2_with fail
  refine G0.out.mono ?_
  rintro r W1 ⟨rfl, hk1, hh1⟩
  have H1 : Hid (Has W1 (pts B (.cells #[.pointer (some ⟨x, 0, none⟩), .pointer (some ⟨y, 0, none⟩), .pointer (some ⟨z, 0, none⟩)] 178 (0, 0)) :: pts b (.cells #[.pointer (some ⟨x, 0, none⟩), .pointer (some ⟨y, 0, none⟩), .pointer (some ⟨z, 0, none⟩)] 180 (0, 0)) :: bmS x size T :: bmS y n F :: bmS z n G :: l)) := hh1.push 2
  have K1 : Hid (Kept w W1) := K0.out.trans hk1
  clear hk1 hh1 L0 G0 d0
  clear H0 K0
  have d1 : W1.cell? ⟨B, 1, none⟩ = some (.pointer (some ⟨y, 0, none⟩)) := cell_of H1.out.got 1 rfl
  go_wp2
  rw [rounds_succ]
  have L1 := Lib.hid (bm_Len (b := y) (n := n) (S := F) H1.out (.tail _ (.tail _ (.tail _ (.head _)))))
  have G1 := Lib.hid (bm_GrowI (H1.out.pull 3) ((size : Int) - n) size (by omega) (by omega) h2)
  go_wp2_with fail
  refine L1.out.mono ?_
  rintro r w' ⟨rfl, rfl⟩
  go_wp2_with fail
  refine G1.out.mono ?_
  rintro r W2 ⟨rfl, hk2, hh2⟩
  have H2 : Hid (Has W2 (pts B (.cells #[.pointer (some ⟨x, 0, none⟩), .pointer (some ⟨y, 0, none⟩), .pointer (some ⟨z, 0, none⟩)] 178 (0, 0)) :: pts b (.cells #[.pointer (some ⟨x, 0, none⟩), .pointer (some ⟨y, 0, none⟩), .pointer (some ⟨z, 0, none⟩)] 180 (0, 0)) :: bmS x size T :: bmS y size F :: bmS z n G :: l)) := hh2.push 3
  have K2 : Hid (Kept w W2) := K1.out.trans hk2
  clear hk2 hh2 L1 G1 d1
  clear H1 K1
  have d2 : W2.cell? ⟨B, 2, none⟩ = some (.pointer (some ⟨z, 0, none⟩)) := cell_of H2.out.got 2 rfl
  go_wp2
  rw [rounds_succ]
  have L2 := Lib.hid (bm_Len (b := z) (n := n) (S := G) H2.out (.tail _ (.tail _ (.tail _ (.tail _ (.head _))))))
  have G2 := Lib.hid (bm_GrowI (H2.out.pull 4) ((size : Int) - n) size (by omega) (by omega) h2)
  go_wp2_with fail
  refine L2.out.mono ?_
  rintro r w' ⟨rfl, rfl⟩
  go_wp2_with fail
  refine G2.out.mono ?_
  rintro r W3 ⟨rfl, hk3, hh3⟩
  have H3 : Hid (Has W3 (pts B (.cells #[.pointer (some ⟨x, 0, none⟩), .pointer (some ⟨y, 0, none⟩), .pointer (some ⟨z, 0, none⟩)] 178 (0, 0)) :: pts b (.cells #[.pointer (some ⟨x, 0, none⟩), .pointer (some ⟨y, 0, none⟩), .pointer (some ⟨z, 0, none⟩)] 180 (0, 0)) :: bmS x size T :: bmS y size F :: bmS z size G :: l)) := hh3.push 4
  have K3 : Hid (Kept w W3) := K2.out.trans hk3
  clear hk3 hh3 L2 G2 d2
  clear H2 K2
  go_wp2
  rw [rounds_succ]
  go_wp2
  go_end0
  exact ⟨rfl, K3.out, Has.shelf_shut (x := (x, y, z)) H3.out.tail⟩

def emptyShelf (n : Nat) : Shelf := ⟨n, fun _ => false, fun _ => false, fun _ => false⟩
/-- A shelf is handed back. -/
def ShelfPost (w : World) (s : Shelf) (l : List Say) (r : Ending) (w' : World) : Prop := ∃ b, r = .returned (.pointer (some ⟨b, 0, none⟩)) ∧ Kept w w' ∧ Has w' (shelfS b s :: l)

set_option maxRecDepth 100000 in
theorem newShelf {w : World} {l : List Say} (h : Has w l) (n : Nat) (hn : n ≤ 4096) :
    Calls Tryz.prog 120 #[.int .i64 (n : Int)] w (ShelfPost w (emptyShelf n) l) := by
  have H0 := Lib.hid (h.alloc (.cells #[.pointer none, .pointer none, .pointer none] 264))
  have K0 : Hid (Kept w (w.alloc (.cells #[.pointer none, .pointer none, .pointer none] 264))) := (Kept.refl w).alloc _
  clear h
  go_enter Tryz.func120, Tryz.ntmps120
  go_wp2
  generalize hW : w.alloc (.cells #[.pointer none, .pointer none, .pointer none] 264) = W0 at *
  generalize w.heap.size = B at *
  refine wp_loop_rounds 4 ?_
  clear hW
  have N0 := Lib.hid (bm_New H0.out n hn)
  generalize hx0 : W0.heap.size = x0 at N0
  have c0 : W0.cell? ⟨B, 0, none⟩ = some (.pointer none) := cell_of H0.out.got 0 rfl
  rw [rounds_succ]
  go_wp2_with fail
  refine N0.out.mono ?_
  rintro r V1 ⟨rfl, hk1, hh1⟩
  have hg1 := hh1.swap.got
  have c1 : V1.cell? ⟨B, 0, none⟩ = some (.pointer none) := cell_of hg1 0 rfl
  have f1 := thaw_of hg1 0
  have T1 : Hid (Has (V1.setCell ⟨B, 0, none⟩ (.pointer (some ⟨x0, 0, none⟩))) (pts B (.cells #[.pointer (some ⟨x0, 0, none⟩), .pointer none, .pointer none] 264 (0, 0)) :: bmS x0 n (fun _ => false) :: l)) := hh1.swap.setCell 0 _
  have K1 : Hid (Kept w (V1.setCell ⟨B, 0, none⟩ (.pointer (some ⟨x0, 0, none⟩)))) := (K0.out.trans hk1).setCell _ _
  clear hk1 hh1 hg1 N0
  go_wp2
  generalize hW1 : V1.setCell ⟨B, 0, none⟩ (.pointer (some ⟨x0, 0, none⟩)) = W1 at *
  have H1 := T1
  clear hW1 c1 f1 T1 H0 K0
  have N1 := Lib.hid (bm_New H1.out n hn)
  generalize hx1 : W1.heap.size = x1 at N1
  have c1 : W1.cell? ⟨B, 1, none⟩ = some (.pointer none) := cell_of H1.out.got 1 rfl
  rw [rounds_succ]
  go_wp2_with fail
  refine N1.out.mono ?_
  rintro r V2 ⟨rfl, hk2, hh2⟩
  have hg2 := hh2.swap.got
  have c2 : V2.cell? ⟨B, 1, none⟩ = some (.pointer none) := cell_of hg2 1 rfl
  have f2 := thaw_of hg2 1
  have T2 : Hid (Has (V2.setCell ⟨B, 1, none⟩ (.pointer (some ⟨x1, 0, none⟩))) (pts B (.cells #[.pointer (some ⟨x0, 0, none⟩), .pointer (some ⟨x1, 0, none⟩), .pointer none] 264 (0, 0)) :: bmS x1 n (fun _ => false) :: bmS x0 n (fun _ => false) :: l)) := hh2.swap.setCell 1 _
  have K2 : Hid (Kept w (V2.setCell ⟨B, 1, none⟩ (.pointer (some ⟨x1, 0, none⟩)))) := (K1.out.trans hk2).setCell _ _
  clear hk2 hh2 hg2 N1
  go_wp2
  generalize hW2 : V2.setCell ⟨B, 1, none⟩ (.pointer (some ⟨x1, 0, none⟩)) = W2 at *
  have H2 := T2
  clear hW2 c2 f2 T2 H1 K1
  have N2 := Lib.hid (bm_New H2.out n hn)
  generalize hx2 : W2.heap.size = x2 at N2
  have c2 : W2.cell? ⟨B, 2, none⟩ = some (.pointer none) := cell_of H2.out.got 2 rfl
  rw [rounds_succ]
  go_wp2_with fail
  refine N2.out.mono ?_
  rintro r V3 ⟨rfl, hk3, hh3⟩
  have hg3 := hh3.swap.got
  have c3 : V3.cell? ⟨B, 2, none⟩ = some (.pointer none) := cell_of hg3 2 rfl
  have f3 := thaw_of hg3 2
  have T3 : Hid (Has (V3.setCell ⟨B, 2, none⟩ (.pointer (some ⟨x2, 0, none⟩))) (pts B (.cells #[.pointer (some ⟨x0, 0, none⟩), .pointer (some ⟨x1, 0, none⟩), .pointer (some ⟨x2, 0, none⟩)] 264 (0, 0)) :: bmS x2 n (fun _ => false) :: bmS x1 n (fun _ => false) :: bmS x0 n (fun _ => false) :: l)) := hh3.swap.setCell 2 _
  have K3 : Hid (Kept w (V3.setCell ⟨B, 2, none⟩ (.pointer (some ⟨x2, 0, none⟩)))) := (K2.out.trans hk3).setCell _ _
  clear hk3 hh3 hg3 N2
  go_wp2
  generalize hW3 : V3.setCell ⟨B, 2, none⟩ (.pointer (some ⟨x2, 0, none⟩)) = W3 at *
  have H3 := T3
  clear hW3 c3 f3 T3 H2 K2
  rw [rounds_succ]
  have d0 : W3.cell? ⟨B, 0, none⟩ = some (.pointer (some ⟨x0, 0, none⟩)) := cell_of H3.out.got 0 rfl
  have d1 : W3.cell? ⟨B, 1, none⟩ = some (.pointer (some ⟨x1, 0, none⟩)) := cell_of H3.out.got 1 rfl
  have d2 : W3.cell? ⟨B, 2, none⟩ = some (.pointer (some ⟨x2, 0, none⟩)) := cell_of H3.out.got 2 rfl
  go_wp2
  go_ret
  refine ⟨W3.heap.size, rfl, K3.out.alloc _, ?_⟩
  have h4 := (H3.out.tail.alloc (.cells #[.pointer (some ⟨x0, 0, none⟩), .pointer (some ⟨x1, 0, none⟩), .pointer (some ⟨x2, 0, none⟩)] 180))
  exact Has.shelf_shut (x := (x0, x1, x2)) (((h4.pull 2).push 1).pull 3 |>.push 1 |>.swap |>.swap)
end Go.Proofs.YtgbgneiciabidaaGreatDoor
