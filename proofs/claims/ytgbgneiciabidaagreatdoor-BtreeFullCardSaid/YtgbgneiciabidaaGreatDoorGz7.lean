/-
  Spaces (layer 8), the first part: the shelf of one device.
-/
import Derived.Test.YtgbgneiciabidaaGreatDoorGz6
import Derived.Test.YtgbgneiciabidaaGreatDoorGz2
import Derived.Deep.RegionWith
import Derived.RegionTactic
import Derived.BigRegion
namespace Go.Proofs.YtgbgneiciabidaaGreatDoor
open Go Go.RowKit
set_option linter.unusedVariables false
set_option linter.unusedSimpArgs false

theorem quiet_same {P : Program} {f : FuncId} {args : Array Value} {w : World} {n : Nat} {v : Value} (h : Calls P f args (w.drewN n) fun e w' => e = .returned v ∧ w.drewN n = w') :
    Calls P f args (w.drewN n) fun e w'' => e = .returned v ∧ ∃ m, w'' = w.drewN m := h.mono fun _ _ ⟨a, b⟩ => ⟨a, n, b.symm⟩
theorem quiet_drew {P : Program} {f : FuncId} {args : Array Value} {w : World} {n : Nat} {v : Value} (h : Calls P f args (w.drewN n) fun e w' => e = .returned v ∧ ∃ m, w' = (w.drewN n).drewN m) :
    Calls P f args (w.drewN n) fun e w'' => e = .returned v ∧ ∃ m, w'' = w.drewN m := Calls.quiet_of h

def ptr (b : Nat) : Value := .pointer (some ⟨b, 0, none⟩)
structure Shelf where
  n : Nat
  taken : Nat → Bool
  fresh : Nat → Bool
  given : Nat → Bool
def Shelf.used (s : Shelf) : Nat := cntTo s.taken s.n + cntTo s.given s.n
def shelfParts (b : Nat) (s : Shelf) (x : Nat × Nat × Nat) : List Say :=
  [pts b (.cells #[.pointer (some ⟨x.1, 0, none⟩), .pointer (some ⟨x.2.1, 0, none⟩), .pointer (some ⟨x.2.2, 0, none⟩)] 180 (0, 0)), bmS x.1 s.n s.taken, bmS x.2.1 s.n s.fresh, bmS x.2.2 s.n s.given]
def shelfS (b : Nat) (s : Shelf) : Say := ex fun x : Nat × Nat × Nat => all (shelfParts b s x)
theorem Has.shelf_open {w : World} {l : List Say} {b : Nat} {s : Shelf} (h : Has w (shelfS b s :: l)) : ∃ x, Has w (shelfParts b s x ++ l) := by
  obtain ⟨x, h⟩ := h.opened
  exact ⟨x, h.split⟩
theorem Has.shelf_shut {w : World} {l : List Say} {b : Nat} {s : Shelf} {x : Nat × Nat × Nat} (h : Has w (shelfParts b s x ++ l)) : Has w (shelfS b s :: l) := Has.chosen x h.unite
theorem Has.shelf_read {w : World} {l : List Say} {b : Nat} {s : Shelf} (h : Has w l) (hm : shelfS b s ∈ l) :
    ∃ x y z, w.cell? ⟨b, 0, none⟩ = some (.pointer (some ⟨x, 0, none⟩)) ∧ w.cell? ⟨b, 1, none⟩ = some (.pointer (some ⟨y, 0, none⟩)) ∧ w.cell? ⟨b, 2, none⟩ = some (.pointer (some ⟨z, 0, none⟩)) ∧
      Has w [bmS x s.n s.taken, bmS y s.n s.fresh, bmS z s.n s.given] := by
  obtain ⟨⟨x, y, z⟩, h1⟩ := (h.only hm).shelf_open
  have hb := Has.got (l := [bmS x s.n s.taken, bmS y s.n s.fresh, bmS z s.n s.given]) h1
  exact ⟨x, y, z, cell_of hb 0 rfl, cell_of hb 1 rfl, cell_of hb 2 rfl, h1.tail⟩

theorem shelf_used {w : World} {l : List Say} {b : Nat} {s : Shelf} (h : Has w l) (hm : shelfS b s ∈ l) (hn : s.n ≤ 4096) :
    Calls Tryz.prog 149 #[.pointer (some ⟨b, 0, none⟩)] w fun e w' => e = .returned (.int .i64 (s.used : Nat)) ∧ ∃ m, w' = w.drewN m := by
  obtain ⟨x, y, z, c0, c1, c2, hh⟩ := h.shelf_read hm
  have b1 := cntTo_le s.taken s.n
  have b2 := cntTo_le s.given s.n
  have HT := Lib.hid (fun n => quiet_same (bm_Count (w := w.drewN n) (hh.drewN n) (b := x) (.head _)))
  have HG := Lib.hid (fun n => quiet_same (bm_Count (w := w.drewN n) (hh.drewN n) (b := z) (.tail _ (.tail _ (.head _)))))
  have Hu : Hid (s.used = cntTo s.taken s.n + cntTo s.given s.n) := rfl
  generalize cntTo s.taken s.n = t at *
  generalize cntTo s.given s.n = g at *
  have hsum : IntKind.i64.wrap ((t : Int) + g) = (t : Int) + g := IntWalk.i64_in _ (by omega)
  clear hh h hm
  go_enter Tryz.func149, Tryz.ntmps149
  go_wp2
  go_quiet (first | (go_at_call_of 200 (some (⟨x, 0, none⟩ : Addr)); exact HT.out _) | (go_at_call 200; exact HG.out _))
  go_wp2
  go_ret
  exact ⟨by rw [Hu.out]; simp, nq, rfl⟩

theorem bm_GrowI {w : World} {l : List Say} {b n : Nat} {S : Nat → Bool} (h : Has w (bmS b n S :: l)) (m : Int) (size : Nat) (hm : (n : Int) + m = size) (h0 : 0 ≤ m) (h4 : size ≤ 4096) :
    Calls Tryz.prog 179 #[.pointer (some ⟨b, 0, none⟩), .int .i64 m] w fun e w' =>
      e = .returned .nilIface ∧ Kept w w' ∧ Has w' (bmS b size S :: l) := by
  obtain ⟨k, rfl⟩ := Int.eq_ofNat_of_zero_le h0
  have e : n + k = size := by omega
  have := bm_Grow h k (by omega)
  rw [e] at this
  exact this

set_option maxRecDepth 100000 in
theorem shelf_grow {w : World} {l : List Say} {b : Nat} {s : Shelf} (h : Has w (shelfS b s :: l)) (size : Nat) (h1 : s.n ≤ size) (h2 : size ≤ 4096) :
    Calls Tryz.prog 121 #[.pointer (some ⟨b, 0, none⟩), .int .i64 (size : Int)] w fun e w' =>
      e = .returned (.tuple #[]) ∧ Kept w w' ∧ Has w' (shelfS b { s with n := size } :: l) := by
  obtain ⟨⟨x, y, z⟩, hh⟩ := h.shelf_open
  obtain ⟨n, T, F, G⟩ := s
  simp only at h1
  simp only [shelfParts, List.cons_append, List.nil_append] at hh
  have hb := hh.got
  have c0 : w.cell? ⟨b, 0, none⟩ = some (.pointer (some ⟨x, 0, none⟩)) := cell_of hb 0 rfl
  have c1 : w.cell? ⟨b, 1, none⟩ = some (.pointer (some ⟨y, 0, none⟩)) := cell_of hb 1 rfl
  have c2 : w.cell? ⟨b, 2, none⟩ = some (.pointer (some ⟨z, 0, none⟩)) := cell_of hb 2 rfl
  have hblt : b < w.heap.size := World.block_lt_of_cell? _ _ c0
  have HH := Lib.hid hh
  clear hh hb h
  go_enter Tryz.func121, Tryz.ntmps121
  go_wp2
  go_region
  generalize hB : w.heap.size = B at *
  generalize hW : (w.alloc (.cells #[.pointer (some ⟨x, 0, none⟩), .pointer (some ⟨y, 0, none⟩), .pointer (some ⟨z, 0, none⟩)] 178)).drew = W0 at *
  have H0 : Hid (Has W0 (pts B (.cells #[.pointer (some ⟨x, 0, none⟩), .pointer (some ⟨y, 0, none⟩), .pointer (some ⟨z, 0, none⟩)] 178 (0, 0)) :: pts b (.cells #[.pointer (some ⟨x, 0, none⟩), .pointer (some ⟨y, 0, none⟩), .pointer (some ⟨z, 0, none⟩)] 180 (0, 0)) :: bmS x n T :: bmS y n F :: bmS z n G :: l)) := by
    rw [← hW, ← hB]; exact (HH.out.alloc _).drew
  have K0 : Hid (Kept w W0) := by rw [← hW]; exact ((Kept.refl w).alloc _).drew
  clear hW hB HH c0 c1 c2 hblt
  have d0 : W0.cell? ⟨B, 0, none⟩ = some (.pointer (some ⟨x, 0, none⟩)) := cell_of H0.out.got 0 rfl
  go_wp2
  refine wp_loop_rounds 4 ?_
  rw [rounds_succ]
  have L0 := Lib.hid (bm_Len (b := x) (n := n) (S := T) H0.out (.tail _ (.tail _ (.head _))))
  have G0 := Lib.hid (bm_GrowI (H0.out.pull 2) ((size : Int) - n) size (by omega) (by omega) h2)
  go_wp2_with fail
  refine L0.out.mono ?_
  rintro r w' ⟨rfl, rfl⟩
  go_wp2_with fail
  refine G0.out.mono ?_
  rintro r W1 ⟨rfl, hk1, hh1⟩
  have H1 : Hid (Has W1 (pts B (.cells #[.pointer (some ⟨x, 0, none⟩), .pointer (some ⟨y, 0, none⟩), .pointer (some ⟨z, 0, none⟩)] 178 (0, 0)) :: pts b (.cells #[.pointer (some ⟨x, 0, none⟩), .pointer (some ⟨y, 0, none⟩), .pointer (some ⟨z, 0, none⟩)] 180 (0, 0)) :: bmS x size T :: bmS y n F :: bmS z n G :: l)) := hh1.push 2
  have K1 : Hid (Kept w W1) := K0.out.trans hk1
  clear hk1 hh1 L0 G0 d0
  clear H0 K0
  have d1 : W1.cell? ⟨B, 1, none⟩ = some (.pointer (some ⟨y, 0, none⟩)) := cell_of H1.out.got 1 rfl
  go_wp2
  rw [rounds_succ]
  have L1 := Lib.hid (bm_Len (b := y) (n := n) (S := F) H1.out (.tail _ (.tail _ (.tail _ (.head _)))))
  have G1 := Lib.hid (bm_GrowI (H1.out.pull 3) ((size : Int) - n) size (by omega) (by omega) h2)
  go_wp2_with fail
  refine L1.out.mono ?_
  rintro r w' ⟨rfl, rfl⟩
  go_wp2_with fail
  refine G1.out.mono ?_
  rintro r W2 ⟨rfl, hk2, hh2⟩
  have H2 : Hid (Has W2 (pts B (.cells #[.pointer (some ⟨x, 0, none⟩), .pointer (some ⟨y, 0, none⟩), .pointer (some ⟨z, 0, none⟩)] 178 (0, 0)) :: pts b (.cells #[.pointer (some ⟨x, 0, none⟩), .pointer (some ⟨y, 0, none⟩), .pointer (some ⟨z, 0, none⟩)] 180 (0, 0)) :: bmS x size T :: bmS y size F :: bmS z n G :: l)) := hh2.push 3
  have K2 : Hid (Kept w W2) := K1.out.trans hk2
  clear hk2 hh2 L1 G1 d1
  clear H1 K1
  have d2 : W2.cell? ⟨B, 2, none⟩ = some (.pointer (some ⟨z, 0, none⟩)) := cell_of H2.out.got 2 rfl
  go_wp2
  rw [rounds_succ]
  have L2 := Lib.hid (bm_Len (b := z) (n := n) (S := G) H2.out (.tail _ (.tail _ (.tail _ (.tail _ (.head _))))))
  have G2 := Lib.hid (bm_GrowI (H2.out.pull 4) ((size : Int) - n) size (by omega) (by omega) h2)
  go_wp2_with fail
  refine L2.out.mono ?_
  rintro r w' ⟨rfl, rfl⟩
  go_wp2_with fail
  refine G2.out.mono ?_
  rintro r W3 ⟨rfl, hk3, hh3⟩
  have H3 : Hid (Has W3 (pts B (.cells #[.pointer (some ⟨x, 0, none⟩), .pointer (some ⟨y, 0, none⟩), .pointer (some ⟨z, 0, none⟩)] 178 (0, 0)) :: pts b (.cells #[.pointer (some ⟨x, 0, none⟩), .pointer (some ⟨y, 0, none⟩), .pointer (some ⟨z, 0, none⟩)] 180 (0, 0)) :: bmS x size T :: bmS y size F :: bmS z size G :: l)) := hh3.push 4
  have K3 : Hid (Kept w W3) := K2.out.trans hk3
  clear hk3 hh3 L2 G2 d2
  clear H2 K2
  go_wp2
  rw [rounds_succ]
  go_wp2
  go_end0
  exact ⟨rfl, K3.out, Has.shelf_shut (x := (x, y, z)) H3.out.tail⟩

def emptyShelf (n : Nat) : Shelf := ⟨n, fun _ => false, fun _ => false, fun _ => false⟩
def ShelfPost (w : World) (s : Shelf) (l : List Say) (r : Ending) (w' : World) : Prop := ∃ b, r = .returned (.pointer (some ⟨b, 0, none⟩)) ∧ Kept w w' ∧ Has w' (shelfS b s :: l)

set_option maxRecDepth 100000 in
theorem newShelf {w : World} {l : List Say} (h : Has w l) (n : Nat) (hn : n ≤ 4096) :
    Calls Tryz.prog 120 #[.int .i64 (n : Int)] w (ShelfPost w (emptyShelf n) l) := by
  have H0 := Lib.hid (h.alloc (.cells #[.pointer none, .pointer none, .pointer none] 264))
  have K0 : Hid (Kept w (w.alloc (.cells #[.pointer none, .pointer none, .pointer none] 264))) := (Kept.refl w).alloc _
  clear h
  go_enter Tryz.func120, Tryz.ntmps120
  go_wp2
  generalize hW : w.alloc (.cells #[.pointer none, .pointer none, .pointer none] 264) = W0 at *
  generalize w.heap.size = B at *
  refine wp_loop_rounds 4 ?_
  clear hW
  have N0 := Lib.hid (bm_New H0.out n hn)
  generalize hx0 : W0.heap.size = x0 at N0
  have c0 : W0.cell? ⟨B, 0, none⟩ = some (.pointer none) := cell_of H0.out.got 0 rfl
  rw [rounds_succ]
  go_wp2_with fail
  refine N0.out.mono ?_
  rintro r V1 ⟨rfl, hk1, hh1⟩
  have hg1 := hh1.swap.got
  have c1 : V1.cell? ⟨B, 0, none⟩ = some (.pointer none) := cell_of hg1 0 rfl
  have f1 := thaw_of hg1 0
  have T1 : Hid (Has (V1.setCell ⟨B, 0, none⟩ (.pointer (some ⟨x0, 0, none⟩))) (pts B (.cells #[.pointer (some ⟨x0, 0, none⟩), .pointer none, .pointer none] 264 (0, 0)) :: bmS x0 n (fun _ => false) :: l)) := hh1.swap.setCell 0 _
  have K1 : Hid (Kept w (V1.setCell ⟨B, 0, none⟩ (.pointer (some ⟨x0, 0, none⟩)))) := (K0.out.trans hk1).setCell _ _
  clear hk1 hh1 hg1 N0
  go_wp2
  generalize hW1 : V1.setCell ⟨B, 0, none⟩ (.pointer (some ⟨x0, 0, none⟩)) = W1 at *
  have H1 := T1
  clear hW1 c1 f1 T1 H0 K0
  have N1 := Lib.hid (bm_New H1.out n hn)
  generalize hx1 : W1.heap.size = x1 at N1
  have c1 : W1.cell? ⟨B, 1, none⟩ = some (.pointer none) := cell_of H1.out.got 1 rfl
  rw [rounds_succ]
  go_wp2_with fail
  refine N1.out.mono ?_
  rintro r V2 ⟨rfl, hk2, hh2⟩
  have hg2 := hh2.swap.got
  have c2 : V2.cell? ⟨B, 1, none⟩ = some (.pointer none) := cell_of hg2 1 rfl
  have f2 := thaw_of hg2 1
  have T2 : Hid (Has (V2.setCell ⟨B, 1, none⟩ (.pointer (some ⟨x1, 0, none⟩))) (pts B (.cells #[.pointer (some ⟨x0, 0, none⟩), .pointer (some ⟨x1, 0, none⟩), .pointer none] 264 (0, 0)) :: bmS x1 n (fun _ => false) :: bmS x0 n (fun _ => false) :: l)) := hh2.swap.setCell 1 _
  have K2 : Hid (Kept w (V2.setCell ⟨B, 1, none⟩ (.pointer (some ⟨x1, 0, none⟩)))) := (K1.out.trans hk2).setCell _ _
  clear hk2 hh2 hg2 N1
  go_wp2
  generalize hW2 : V2.setCell ⟨B, 1, none⟩ (.pointer (some ⟨x1, 0, none⟩)) = W2 at *
  have H2 := T2
  clear hW2 c2 f2 T2 H1 K1
  have N2 := Lib.hid (bm_New H2.out n hn)
  generalize hx2 : W2.heap.size = x2 at N2
  have c2 : W2.cell? ⟨B, 2, none⟩ = some (.pointer none) := cell_of H2.out.got 2 rfl
  rw [rounds_succ]
  go_wp2_with fail
  refine N2.out.mono ?_
  rintro r V3 ⟨rfl, hk3, hh3⟩
  have hg3 := hh3.swap.got
  have c3 : V3.cell? ⟨B, 2, none⟩ = some (.pointer none) := cell_of hg3 2 rfl
  have f3 := thaw_of hg3 2
  have T3 : Hid (Has (V3.setCell ⟨B, 2, none⟩ (.pointer (some ⟨x2, 0, none⟩))) (pts B (.cells #[.pointer (some ⟨x0, 0, none⟩), .pointer (some ⟨x1, 0, none⟩), .pointer (some ⟨x2, 0, none⟩)] 264 (0, 0)) :: bmS x2 n (fun _ => false) :: bmS x1 n (fun _ => false) :: bmS x0 n (fun _ => false) :: l)) := hh3.swap.setCell 2 _
  have K3 : Hid (Kept w (V3.setCell ⟨B, 2, none⟩ (.pointer (some ⟨x2, 0, none⟩)))) := (K2.out.trans hk3).setCell _ _
  clear hk3 hh3 hg3 N2
  go_wp2
  generalize hW3 : V3.setCell ⟨B, 2, none⟩ (.pointer (some ⟨x2, 0, none⟩)) = W3 at *
  have H3 := T3
  clear hW3 c3 f3 T3 H2 K2
  rw [rounds_succ]
  have d0 : W3.cell? ⟨B, 0, none⟩ = some (.pointer (some ⟨x0, 0, none⟩)) := cell_of H3.out.got 0 rfl
  have d1 : W3.cell? ⟨B, 1, none⟩ = some (.pointer (some ⟨x1, 0, none⟩)) := cell_of H3.out.got 1 rfl
  have d2 : W3.cell? ⟨B, 2, none⟩ = some (.pointer (some ⟨x2, 0, none⟩)) := cell_of H3.out.got 2 rfl
  go_wp2
  go_ret
  refine ⟨W3.heap.size, rfl, K3.out.alloc _, ?_⟩
  have h4 := (H3.out.tail.alloc (.cells #[.pointer (some ⟨x0, 0, none⟩), .pointer (some ⟨x1, 0, none⟩), .pointer (some ⟨x2, 0, none⟩)] 180))
  exact Has.shelf_shut (x := (x0, x1, x2)) (((h4.pull 2).push 1).pull 3 |>.push 1 |>.swap |>.swap)
end Go.Proofs.YtgbgneiciabidaaGreatDoor
/-
  Spaces (layer 8): a space in memory; addresses; find, free.
-/
namespace Go.Proofs.YtgbgneiciabidaaGreatDoor
open Go Go.RowKit
set_option linter.unusedVariables false
set_option linter.unusedSimpArgs false

structure Spc where
  es : List Ent
  sh : List Shelf
structure SpAt where
  st : Nat
  lv : Value
  sv : Value
  bs : List Nat
structure ShelfOk (s : Shelf) : Prop where
  t2 : ∀ k, s.taken k = true → 2 ≤ k
  g2 : ∀ k, s.given k = true → 2 ≤ k
  ne : ∀ k, s.taken k = true → s.given k = false
structure SpcOk (X : Spc) (bs : List Nat) : Prop where
  ents : OkEnts X.es
  ne : X.es ≠ []
  bs : bs.length = X.sh.length
  sh : X.es.length = X.sh.length
  size : ∀ (i : Nat) (s : Shelf) (e : Ent), X.sh[i]? = some s → X.es[i]? = some e → s.n = e.size
  ok : ∀ (i : Nat) (s : Shelf), X.sh[i]? = some s → ShelfOk s
def spHead (s : Nat) (es : List Ent) (x : SpAt) : List Say :=
  [pts s (.cells #[.pointer (some ⟨x.st, 0, none⟩), .pointer none] 160 (0, 0)), pts x.st (.cells #[x.lv, x.sv] 163 (0, 0)), entS x.lv es,
    rowS 175 1 x.sv x.bs.length (x.bs.map ptr)]
def shelvesL (bs : List Nat) (sh : List Shelf) : List Say := (bs.zip sh).map fun y => shelfS y.1 y.2
def spFlat (s : Nat) (X : Spc) (x : SpAt) : List Say := spHead s X.es x ++ shelvesL x.bs X.sh
def spaceS (s : Nat) (X : Spc) : Say := ex fun x : SpAt => fact (SpcOk X x.bs) (all (spFlat s X x))
theorem Has.sp_open {w : World} {l : List Say} {s : Nat} {X : Spc} (h : Has w (spaceS s X :: l)) : ∃ x, SpcOk X x.bs ∧ Has w (spFlat s X x ++ l) := by
  obtain ⟨x, h⟩ := h.opened
  obtain ⟨ok, h⟩ := h.unfact
  exact ⟨x, ok, h.split⟩
theorem Has.sp_shut {w : World} {l : List Say} {s : Nat} {X : Spc} {x : SpAt} (ok : SpcOk X x.bs) (h : Has w (spFlat s X x ++ l)) : Has w (spaceS s X :: l) := Has.chosen x (Has.tofact ok h.unite)

structure SpRead (w : World) (s : Nat) (X : Spc) (x : SpAt) (a : Option Addr) (c : Nat) (sa : Option Addr) (sc : Nat) : Prop where
  s0 : w.cell? ⟨s, 0, none⟩ = some (.pointer (some ⟨x.st, 0, none⟩))
  s1 : w.cell? ⟨s, 1, none⟩ = some (.pointer none)
  t0 : w.cell? ⟨x.st, 0, none⟩ = some (.slice a X.es.length c)
  t1 : w.cell? ⟨x.st, 1, none⟩ = some (.slice sa X.sh.length sc)
  lv : x.lv = .slice a X.es.length c
  sv : x.sv = .slice sa X.sh.length sc
  ent : ∀ k e, X.es[k]? = some e → ∃ g, a = some ⟨g, 0, none⟩ ∧ w.cell? ⟨g, k * 2, none⟩ = some (.int .i64 (e.st : Int)) ∧ w.cell? ⟨g, k * 2 + 1, none⟩ = some (.int .i64 (e.size : Int))
  shelf : ∀ k y, X.sh[k]? = some y → ∃ g b, sa = some ⟨g, 0, none⟩ ∧ w.cell? ⟨g, k, none⟩ = some (.pointer (some ⟨b, 0, none⟩)) ∧ shelfS b y ∈ shelvesL x.bs X.sh ∧ x.bs[k]? = some b
theorem Has.sp_read {w : World} {l : List Say} {s : Nat} {X : Spc} {x : SpAt} (h : Has w l) (hs : ∀ A ∈ spFlat s X x, A ∈ l) (ok : SpcOk X x.bs) : ∃ a c sa sc, SpRead w s X x a c sa sc := by
  have m0 := h.at (hs _ (by simp [spFlat, spHead]) : pts s (.cells #[.pointer (some ⟨x.st, 0, none⟩), .pointer none] 160 (0, 0)) ∈ l)
  have m1 := h.at (hs _ (by simp [spFlat, spHead]) : pts x.st (.cells #[x.lv, x.sv] 163 (0, 0)) ∈ l)
  obtain ⟨a, c, hv, hc, hr⟩ := h.ent_read (hs _ (by simp [spFlat, spHead]) : entS x.lv X.es ∈ l)
  obtain ⟨hl, sa, sc, hsv, _, _, hsr⟩ := h.row_read (hs _ (by simp [spFlat, spHead]) : rowS 175 1 x.sv x.bs.length (x.bs.map ptr) ∈ l)
  rw [hv, hsv, ok.bs] at m1
  refine ⟨a, c, sa, sc, cell_of m0 0 rfl, cell_of m0 1 rfl, cell_of m1 0 rfl, cell_of m1 1 rfl, hv, by rw [hsv, ok.bs], hr, fun k y hy => ?_⟩
  have hk := (List.getElem?_eq_some_iff.1 hy).1
  have hkb : k < x.bs.length := by rw [ok.bs]; exact hk
  obtain ⟨g, e1, e2, _⟩ := hsr k (ptr x.bs[k]) (by simp [List.getElem?_eq_getElem hkb])
  refine ⟨g, x.bs[k], e1, e2, ?_, List.getElem?_eq_getElem hkb⟩
  refine List.mem_map.2 ⟨(x.bs[k], y), ?_, rfl⟩
  have hz : (x.bs.zip X.sh)[k]? = some (x.bs[k], y) := by rw [List.getElem?_zip_eq_some]; exact ⟨List.getElem?_eq_getElem hkb, hy⟩
  exact List.mem_of_getElem? hz

theorem cntTo_or {S T : Nat → Bool} : ∀ n, (∀ k, S k = true → T k = false) → cntTo S n + cntTo T n = cntTo (fun k => S k || T k) n
  | 0, _ => rfl
  | n + 1, h => by
    have ih := cntTo_or n h
    have hn := h n
    simp only [cntTo]
    by_cases hs : S n = true
    · have ht := hn hs
      simp [hs, ht]; omega
    · by_cases ht : T n = true
      · simp [hs, ht]; omega
      · simp [hs, ht]; omega
theorem cntTo_not (S : Nat → Bool) : ∀ n, cntTo S n + cntTo (fun k => !S k) n = n
  | 0 => rfl
  | n + 1 => by
    have ih := cntTo_not S n
    simp only [cntTo]
    by_cases hs : S n = true
    · simp [hs]; omega
    · simp [hs]; omega
theorem cntTo_mono (S : Nat → Bool) : ∀ {m n : Nat}, m ≤ n → cntTo S m ≤ cntTo S n := by
  intro m n h
  obtain ⟨d, rfl⟩ : ∃ d, n = m + d := ⟨n - m, by omega⟩
  rw [cntTo_add]; omega
theorem cntTo_two {S : Nat → Bool} (h0 : S 0 = true) (h1 : S 1 = true) {n : Nat} (hn : 2 ≤ n) : 2 ≤ cntTo S n := by
  have := cntTo_mono S hn
  simpa [cntTo, h0, h1] using this
def Shelf.busy (s : Shelf) (k : Nat) : Bool := s.taken k || s.given k
theorem ShelfOk.used {s : Shelf} (h : ShelfOk s) : s.used = cntTo s.busy s.n := cntTo_or s.n h.ne
theorem ShelfOk.used_le {s : Shelf} (h : ShelfOk s) (hn : 2 ≤ s.n) : s.used + 2 ≤ s.n := by
  have e0 : (!s.busy 0) = true := by
    simp only [Shelf.busy]
    cases a : s.taken 0 with
    | true => have := h.t2 0 a; omega
    | false => cases b : s.given 0 with
      | true => have := h.g2 0 b; omega
      | false => rfl
  have e1 : (!s.busy 1) = true := by
    simp only [Shelf.busy]
    cases a : s.taken 1 with
    | true => have := h.t2 1 a; omega
    | false => cases b : s.given 1 with
      | true => have := h.g2 1 b; omega
      | false => rfl
  have := cntTo_two (S := fun k => !s.busy k) e0 e1 hn
  have := cntTo_not s.busy s.n
  rw [h.used]; omega
theorem cntTo_full {S : Nat → Bool} : ∀ n, (∀ k, 2 ≤ k → k < n → S k = true) → n ≤ cntTo S n + 2
  | 0, _ => by omega
  | n + 1, h => by
    have ih := cntTo_full n fun k h2 hk => h k h2 (by omega)
    simp only [cntTo]
    by_cases h2 : 2 ≤ n
    · rw [h n h2 (by omega)]; simp; omega
    · omega
theorem ShelfOk.some_free {s : Shelf} (h : ShelfOk s) (hu : s.used + 2 < s.n) : ∃ f, 2 ≤ f ∧ f < s.n ∧ s.busy f = false := by
  apply Classical.byContradiction
  intro hno
  have := cntTo_full (S := s.busy) s.n fun k h2 hk => by
    cases hb : s.busy k with
    | true => rfl
    | false => exact absurd ⟨k, h2, hk, hb⟩ hno
  rw [← h.used] at this
  omega

/-! Addresses. -/
theorem space_At {w : World} (a : Nat) (h : a < 32768) : Calls Tryz.prog 66 #[.int .i64 (a : Int)] w fun e w' => e = .returned (.tuple #[.int .i64 ((a / 4096 : Nat) : Int), .int .i64 ((a % 4096 : Nat) : Int)]) ∧ w = w' := by
  go_enter Tryz.func66, Tryz.ntmps66
  go_wp2
  go_ret2
  exact ⟨by simp, rfl⟩
theorem space_Addr {w : World} (d k : Nat) (hd : d < 8) (hk : k < 4096) : Calls Tryz.prog 128 #[.int .i64 (d : Int), .int .i64 (k : Int)] w fun e w' => e = .returned (.int .i64 ((d * 4096 + k : Nat) : Int)) ∧ w = w' := by
  go_enter Tryz.func128, Tryz.ntmps128
  go_wp2
  go_ret
  exact ⟨by simp, rfl⟩
theorem space_member {w : World} (e : Ent) : Calls Tryz.prog 159 #[e.val] w fun r w' => r = .returned (.bool (!(e.st == 3))) ∧ Below w.heap.size w w' := by
  have hs : ((e.st : Int) == 3) = (e.st == 3) := by rw [Bool.eq_iff_iff]; simp; omega
  simp only [Ent.val] at *
  go_enter Tryz.func159, Tryz.ntmps159
  go_wp2
  go_ret
  exact ⟨by rw [← hs]; rfl, (Below.refl _ _).alloc (Nat.le_refl _) _⟩

def Spc.free (X : Spc) (d : Nat) : Nat := match X.es[d]?, X.sh[d]? with | some e, some y => e.size - 2 - y.used | _, _ => 0

theorem sp_free {w : World} {l : List Say} {s : Nat} {X : Spc} {x : SpAt} (h : Has w l) (hs : ∀ A ∈ spFlat s X x, A ∈ l) (ok : SpcOk X x.bs) (d : Nat) (e : Ent) (y : Shelf) (he : X.es[d]? = some e) (hy : X.sh[d]? = some y) (hu : y.used + 2 ≤ e.size) :
    Calls Tryz.prog 85 #[.pointer (some ⟨s, 0, none⟩), .int .i64 (d : Int)] w fun r w' => r = .returned (.int .i64 (X.free d : Nat)) ∧ ∃ m, w' = w.drewN m := by
  obtain ⟨a, c, sa, sc, R⟩ := h.sp_read hs ok
  obtain ⟨g, rfl, e0, e1⟩ := R.ent d e he
  obtain ⟨q, b, rfl, p0, hmem, _⟩ := R.shelf d y hy
  have hd := (List.getElem?_eq_some_iff.1 he).1
  have hd2 := (List.getElem?_eq_some_iff.1 hy).1
  have hlen := ok.ents.len
  have hesz := (ok.ents.ok e (List.mem_of_getElem? he)).1
  have hn : y.n ≤ 4096 := by rw [ok.size d y e hy he]; exact hesz
  have HU := Lib.hid (fun n => quiet_drew (shelf_used (w := w.drewN n) (h.drewN n) (hs _ (List.mem_append_right _ hmem)) hn))
  have hf : X.free d = e.size - 2 - y.used := by simp [Spc.free, he, hy]
  have Hf := Lib.hid hf
  have s0 := R.s0
  have t0 := R.t0
  have t1 := R.t1
  have hw1 : IntKind.i64.wrap ((e.size : Int) - 2) = (e.size : Int) - 2 := IntWalk.i64_in _ (by omega)
  have hw2 : IntKind.i64.wrap ((e.size : Int) - 2 - (y.used : Int)) = (e.size : Int) - 2 - (y.used : Int) := IntWalk.i64_in _ (by omega)
  generalize hyu : y.used = u at *
  clear R hmem hf he hy h hs hyu
  go_enter Tryz.func85, Tryz.ntmps85
  go_wp2
  go_quiet ((go_at_call 149; exact HU.out _))
  go_wp2
  go_ret
  exact ⟨by rw [Hf.out]; show Ending.returned (.int .i64 ((e.size : Int) - 2 - u)) = _; congr 2; omega, nq, rfl⟩
end Go.Proofs.YtgbgneiciabidaaGreatDoor
/-
  Spaces (layer 8), the second part: find, Taken, Give, Free.
-/
namespace Go.Proofs.YtgbgneiciabidaaGreatDoor
open Go Go.RowKit
set_option linter.unusedVariables false
set_option linter.unusedSimpArgs false

structure InRoom (X : Spc) (d k : Nat) (e : Ent) (y : Shelf) : Prop where
  ent : X.es[d]? = some e
  shelf : X.sh[d]? = some y
  st : e.st ≠ 3
  lo : 2 ≤ k
  hi : k < e.size

def FindPost2 (w : World) (b k : Nat) (r : Ending) (w' : World) : Prop := r = .returned (.tuple #[.pointer (some ⟨b, 0, none⟩), .int .i64 (k : Int)]) ∧ Below w.heap.size w w'

set_option maxRecDepth 100000 in
theorem sp_find {w : World} {l : List Say} {s : Nat} {X : Spc} {x : SpAt} (h : Has w l) (hs : ∀ A ∈ spFlat s X x, A ∈ l) (ok : SpcOk X x.bs) (d k : Nat) (e : Ent) (y : Shelf) (r : InRoom X d k e y) (b : Nat) (hb : x.bs[d]? = some b) :
    Calls Tryz.prog 96 #[.pointer (some ⟨s, 0, none⟩), .int .i64 ((d * 4096 + k : Nat) : Int)] w (FindPost2 w b k) := by
  obtain ⟨he, hy, hst, hlo, hhi⟩ := r
  obtain ⟨a, c, sa, sc, R⟩ := h.sp_read hs ok
  obtain ⟨g, rfl, e0, e1⟩ := R.ent d e he
  obtain ⟨q, b', rfl, p0, hmem, hb'⟩ := R.shelf d y hy
  obtain rfl : b' = b := by rw [hb] at hb'; exact (Option.some.inj hb').symm
  have hd := (List.getElem?_eq_some_iff.1 he).1
  have hd2 := (List.getElem?_eq_some_iff.1 hy).1
  have hlen := ok.ents.len
  have hesz := (ok.ents.ok e (List.mem_of_getElem? he)).1
  have HA := Lib.hid (space_At (w := w) (d * 4096 + k) (by omega))
  rw [show (d * 4096 + k) / 4096 = d by omega, show (d * 4096 + k) % 4096 = k by omega] at HA
  have hm := space_member (w := w) e
  have hst' : (!(e.st == 3)) = true := by simp [hst]
  rw [hst'] at hm
  simp only [Ent.val] at hm
  have HM := Lib.hid hm
  have s0 := R.s0
  have t0 := R.t0
  have t1 := R.t1
  have gl : ∀ {p : Addr} {v : Value}, w.cell? p = some v → p.block < w.heap.size := fun h => World.block_lt_of_cell? _ _ h
  have l1 := gl s0
  have l2 := gl t0
  have l3 := gl e0
  have l4 := gl p0
  clear gl R hmem he hy h hs hm hst' hst hb hb'
  go_enter Tryz.func96, Tryz.ntmps96
  go_wp2_with fail
  refine HA.out.mono ?_
  rintro r w' ⟨rfl, rfl⟩
  go_wp2_with fail
  refine HM.out.mono ?_
  rintro r w1 ⟨rfl, hb1⟩
  obtain ⟨hc, hf⟩ := bcell hb1
  have s0' := (hc s 0 l1).trans s0
  have t0' := (hc x.st 0 l2).trans t0
  have t1' := (hc x.st 1 l2).trans t1
  have e1' := (hc g (d * 2 + 1) l3).trans e1
  have p0' := (hc q d l4).trans p0
  have HB := Lib.hid hb1
  clear hc hf hb1 s0 t0 t1 e0 e1 p0
  go_wp2
  go_ret2
  exact ⟨rfl, HB.out⟩

theorem mem_idxTo (p : Ent → Bool) (es : List Ent) (d : Nat) : ∀ k, d ∈ idxTo p es k → d < k ∧ ∃ e, es[d]? = some e ∧ p e = true
  | 0, h => by cases h
  | k + 1, h => by
    rw [idxTo, List.mem_append] at h
    rcases h with h | h
    · obtain ⟨h1, h2⟩ := mem_idxTo p es d k h
      exact ⟨by omega, h2⟩
    · cases he : es[k]? with
      | none => simp [he] at h
      | some e =>
        simp only [he] at h
        split at h
        · rename_i hp
          obtain rfl : d = k := by simpa using h
          exact ⟨by omega, e, he, hp⟩
        · cases h
theorem SpcOk.active {X : Spc} {bs : List Nat} (ok : SpcOk X bs) {d : Nat} (hd : d ∈ actives X.es) : ∃ e y, X.es[d]? = some e ∧ X.sh[d]? = some y ∧ e.st = 1 ∧ y.n = e.size ∧ y.used + 2 ≤ e.size ∧ e.size ≤ 4096 := by
  obtain ⟨hlt, e, he, hp⟩ := mem_idxTo _ _ _ _ hd
  have hlt2 : d < X.sh.length := by rw [← ok.sh]; exact hlt
  have hy : X.sh[d]? = some X.sh[d] := List.getElem?_eq_getElem hlt2
  have hst : e.st = 1 := by simpa using hp
  obtain ⟨h1, h2⟩ := ok.ents.ok e (List.mem_of_getElem? he)
  have hsz := ok.size d _ e hy he
  refine ⟨e, _, he, hy, hst, hsz, ?_, h1⟩
  have h3 : 2 < e.size := by
    rcases h2 with ⟨_, h⟩ | h
    · exact h
    · omega
  have := (ok.ok d _ hy).used_le (by rw [hsz]; omega)
  omega

def sumTo (f : Nat → Nat) (ds : List Nat) : Nat := (ds.map f).sum
def Spc.freeAll (X : Spc) : Nat := sumTo X.free (actives X.es)
theorem sumTo_take (f : Nat → Nat) (ds : List Nat) (k d : Nat) (h : ds[k]? = some d) : sumTo f (ds.take (k + 1)) = sumTo f (ds.take k) + f d := by
  rw [List.take_add_one, h]; simp [sumTo]
theorem sumTo_le (f : Nat → Nat) (B : Nat) : ∀ (ds : List Nat), (∀ d ∈ ds, f d ≤ B) → sumTo f ds ≤ B * ds.length
  | [], _ => by simp [sumTo]
  | d :: ds, h => by
    have h1 := sumTo_le f B ds fun x hx => h x (by simp [hx])
    have h2 := h d (by simp)
    simp only [sumTo, List.map_cons, List.sum_cons, List.length_cons] at *
    rw [Nat.mul_add]; omega

def FreeRel (X : Spc) (W : World) (gk : Nat) (n i : Value) (wr : World) : Prop :=
  ∃ k : Nat, k ≤ (actives X.es).length ∧ gk = (actives X.es).length - k ∧ i = .int .i64 k ∧ n = .int .i64 (sumTo X.free ((actives X.es).take k) : Nat) ∧ ∃ m, wr = W.drewN m

set_option maxRecDepth 100000 in
theorem sp_FreeAll {w : World} {l : List Say} {s : Nat} {X : Spc} (h : Has w (spaceS s X :: l)) :
    Calls Tryz.prog 22 #[.pointer (some ⟨s, 0, none⟩)] w fun r w' => r = .returned (.int .i64 (X.freeAll : Nat)) ∧ Kept w w' ∧ Has w' (spaceS s X :: l) := by
  obtain ⟨x, ok, hh⟩ := h.sp_open
  obtain ⟨a, c, sa, sc, R⟩ := hh.sp_read (fun A hA => List.mem_append_left _ hA) ok
  have HA := Lib.hid (ros_Actives hh (v := x.lv) (es := X.es) (by simp [spFlat, spHead]) ok.ents)
  rw [R.lv] at HA
  have s0 := R.s0
  have t0 := R.t0
  have hal := idxTo_len (fun e => e.st == 1) X.es X.es.length
  have hes := ok.ents.len
  have Ok := Lib.hid ok
  have Hend : Hid (X.freeAll = sumTo X.free ((actives X.es).take (actives X.es).length)) := by rw [List.take_length]; rfl
  clear R hh h ok
  go_enter Tryz.func22, Tryz.ntmps22
  go_wp2_with fail
  refine HA.out.mono ?_
  rintro r w1 ⟨o, rfl, hK, h1⟩
  obtain ⟨_, oa, oc, rfl, _, _, hor⟩ := h1.row_read (v := o) (e := 3) (.head _)
  have HK := Lib.hid hK
  have H1 := Lib.hid h1
  have Hor := Lib.hid hor
  have hact : (actives X.es).length ≤ 8 := by
    have : actives X.es = idxTo (fun e => e.st == 1) X.es X.es.length := rfl
    rw [this]; omega
  clear hK h1 hor s0 t0 hal
  go_wp2
  go_loopg [3, 15] (actives X.es).length (fun gk n i wr => FreeRel X w1 gk n i wr)
  case atStart => exact ⟨0, Nat.zero_le _, rfl, rfl, rfl, 0, rfl⟩
  case round =>
    obtain ⟨k, hk, rfl, rfl, rfl, m, rfl⟩ := hrel
    by_cases hlt : k < (actives X.es).length
    · obtain ⟨d, hd⟩ : ∃ d, (actives X.es)[k]? = some d := ⟨_, List.getElem?_eq_getElem hlt⟩
      obtain ⟨g, rfl, hg, _⟩ := Hor.out k (natVal d) (by simp [hd])
      obtain ⟨e, y, he, hy, _, _, hu, hez⟩ := Ok.out.active (List.mem_of_getElem? hd)
      have HF := Lib.hid (sp_free (w := w1.drewN m) (H1.out.drewN m) (s := s) (x := x) (fun A hA => .tail _ (List.mem_append_left _ hA)) Ok.out d e y he hy hu)
      have hstep := sumTo_take X.free (actives X.es) k d hd
      have hb1 : X.free d ≤ 4096 := by simp [Spc.free, he, hy]; omega
      have hb2 : sumTo X.free ((actives X.es).take k) ≤ 4096 * ((actives X.es).take k).length := sumTo_le X.free 4096 _ fun d' hd' => by
        obtain ⟨e', y', he', hy', _, _, _, h'⟩ := Ok.out.active (List.mem_of_mem_take hd')
        simp [Spc.free, he', hy']; omega
      have hb3 : ((actives X.es).take k).length ≤ k := List.length_take_le _ _
      have Hstep := Lib.hid hstep
      generalize X.free d = fd at *
      generalize sumTo X.free ((actives X.es).take k) = sm at *
      unfold natVal at hg
      clear he hy hd hstep
      go_wp2_with fail
      refine HF.out.mono ?_
      rintro r w2 ⟨rfl, m2, rfl⟩
      go_wp2
      go_roundg ((actives X.es).length - (k + 1))
      case measure => omega
      case rel => exact ⟨k + 1, by omega, rfl, by go_num, int_eq (by rw [Hstep.out]; omega), m + m2, by simp⟩
    · obtain rfl : k = (actives X.es).length := by omega
      go_wp2
      go_ret
      exact ⟨by rw [Hend.out]; rfl, HK.out.drewN m, Has.sp_shut Ok.out (H1.out.tail.drewN m)⟩
end Go.Proofs.YtgbgneiciabidaaGreatDoor
/-
  Spaces (layer 8), the third part: Take.
-/
namespace Go.Proofs.YtgbgneiciabidaaGreatDoor
open Go Go.RowKit
set_option linter.unusedVariables false
set_option linter.unusedSimpArgs false

def errV (c : Int) : Value := .iface 157 (.int .i64 c)

theorem shelves_focus : ∀ (bs : List Nat) (sh : List Shelf) (d b : Nat) (y : Shelf), bs[d]? = some b → sh[d]? = some y →
    ∃ rest, (shelvesL bs sh).Perm (shelfS b y :: rest) ∧ ∀ y', (shelvesL bs (sh.set d y')).Perm (shelfS b y' :: rest)
  | [], _, _, _, _, h, _ => by simp at h
  | _ :: _, [], _, _, _, _, h => by simp at h
  | b0 :: bs, y0 :: sh, 0, b, y, hb, hy => by
    simp at hb hy
    subst hb hy
    exact ⟨shelvesL bs sh, .refl _, fun y' => .refl _⟩
  | b0 :: bs, y0 :: sh, d + 1, b, y, hb, hy => by
    obtain ⟨rest, h1, h2⟩ := shelves_focus bs sh d b y (by simpa using hb) (by simpa using hy)
    refine ⟨shelfS b0 y0 :: rest, (h1.cons _).trans (.swap _ _ _), fun y' => ?_⟩
    exact ((h2 y').cons (shelfS b0 y0)).trans (.swap _ _ _)

def bestOf (f : Nat → Nat) : List Nat → Nat × Nat → Nat × Nat
  | [], r => r
  | d :: ds, r => bestOf f ds (if r.2 < f d then (d, f d) else r)
theorem bestOf_snoc (f : Nat → Nat) : ∀ (ds : List Nat) (d : Nat) (r : Nat × Nat), bestOf f (ds ++ [d]) r = if (bestOf f ds r).2 < f d then (d, f d) else bestOf f ds r
  | [], d, r => rfl
  | x :: ds, d, r => by simp only [List.cons_append, bestOf]; exact bestOf_snoc f ds d _
theorem bestOf_take (f : Nat → Nat) (ds : List Nat) (k d : Nat) (h : ds[k]? = some d) (r : Nat × Nat) : bestOf f (ds.take (k + 1)) r = if (bestOf f (ds.take k) r).2 < f d then (d, f d) else bestOf f (ds.take k) r := by
  rw [List.take_add_one, h]; exact bestOf_snoc f _ d r
def Best (f : Nat → Nat) (ds : List Nat) (b : Nat) : Prop := b ∈ ds ∧ 0 < f b ∧ (∀ d ∈ ds, f d ≤ f b)
theorem bestOf_spec (f : Nat → Nat) : ∀ (ds : List Nat), ((bestOf f ds (0, 0)).2 = 0 ∧ ∀ d ∈ ds, f d = 0) ∨ ((bestOf f ds (0, 0)).2 = f (bestOf f ds (0, 0)).1 ∧ Best f ds (bestOf f ds (0, 0)).1) := by
  intro ds
  have key : ∀ n, n ≤ ds.length → ((bestOf f (ds.take n) (0, 0)).2 = 0 ∧ ∀ d ∈ ds.take n, f d = 0) ∨ ((bestOf f (ds.take n) (0, 0)).2 = f (bestOf f (ds.take n) (0, 0)).1 ∧ Best f (ds.take n) (bestOf f (ds.take n) (0, 0)).1) := by
    intro n
    induction n with
    | zero => intro _; exact .inl ⟨rfl, by simp⟩
    | succ n ih =>
      intro hn
      obtain ⟨d, hd⟩ : ∃ d, ds[n]? = some d := ⟨_, List.getElem?_eq_getElem (by omega)⟩
      have ih := ih (by omega)
      rw [bestOf_take f ds n d hd]
      have hmem : ∀ x, x ∈ ds.take (n + 1) ↔ x ∈ ds.take n ∨ x = d := fun x => by rw [List.take_add_one, hd]; simp
      rcases ih with ⟨h0, hall⟩ | ⟨h1, hb⟩
      · by_cases hlt : 0 < f d
        · rw [h0, if_pos hlt]
          refine .inr ⟨rfl, (hmem d).2 (.inr rfl), hlt, fun x hx => ?_⟩
          rcases (hmem x).1 hx with h | rfl
          · rw [hall x h]; omega
          · exact Nat.le_refl _
        · rw [h0, if_neg hlt]
          refine .inl ⟨h0, fun x hx => ?_⟩
          rcases (hmem x).1 hx with h | rfl
          · exact hall x h
          · omega
      · rw [h1]
        by_cases hlt : f (bestOf f (ds.take n) (0, 0)).1 < f d
        · rw [if_pos hlt]
          refine .inr ⟨rfl, (hmem d).2 (.inr rfl), (by show 0 < f d; omega), fun x hx => ?_⟩
          rcases (hmem x).1 hx with h | rfl
          · have := hb.2.2 x h; simp only; omega
          · exact Nat.le_refl _
        · rw [if_neg hlt]
          refine .inr ⟨h1, (hmem _).2 (.inl hb.1), hb.2.1, fun x hx => ?_⟩
          rcases (hmem x).1 hx with h | rfl
          · exact hb.2.2 x h
          · omega
  have := key ds.length (Nat.le_refl _)
  rw [List.take_length] at this
  exact this

def Shelf.took (y : Shelf) (k : Nat) : Shelf := { y with taken := fun j => j == k || y.taken j, fresh := fun j => j == k || y.fresh j }
def Spc.put (X : Spc) (d : Nat) (y : Shelf) : Spc := { X with sh := X.sh.set d y }
structure Takes (X : Spc) (d k : Nat) (y : Shelf) : Prop where
  best : Best X.free (actives X.es) d
  first : d = (bestOf X.free (actives X.es) (0, 0)).1
  shelf : X.sh[d]? = some y
  lo : 2 ≤ k
  hi : k < y.n
  free : y.busy k = false
  least : ∀ j, 2 ≤ j → j < k → y.busy j = true
def TakePost (s : Nat) (X : Spc) (l : List Say) (w : World) (r : Ending) (w' : World) : Prop :=
  ((∀ d ∈ actives X.es, X.free d = 0) ∧ r = .returned (.tuple #[.int .i64 0, errV 50]) ∧ Kept w w' ∧ Has w' (spaceS s X :: l)) ∨
  ∃ d k y, Takes X d k y ∧ r = .returned (.tuple #[.int .i64 ((d * 4096 + k : Nat) : Int), .nilIface]) ∧ Kept w w' ∧ Has w' (spaceS s (X.put d (y.took k)) :: l)

theorem ShelfOk.took {y : Shelf} (h : ShelfOk y) {k : Nat} (h2 : 2 ≤ k) (hg : y.given k = false) : ShelfOk (y.took k) := by
  refine ⟨fun j hj => ?_, h.g2, fun j hj => ?_⟩
  · simp only [Shelf.took, Bool.or_eq_true, beq_iff_eq] at hj
    rcases hj with rfl | hj
    · exact h2
    · exact h.t2 j hj
  · simp only [Shelf.took, Bool.or_eq_true, beq_iff_eq] at hj ⊢
    rcases hj with rfl | hj
    · exact hg
    · exact h.ne j hj
theorem SpcOk.put {X : Spc} {bs : List Nat} (ok : SpcOk X bs) {d : Nat} {y y' : Shelf} (hy : X.sh[d]? = some y) (hn : y'.n = y.n) (h : ShelfOk y') : SpcOk (X.put d y') bs := by
  refine ⟨ok.ents, ok.ne, by simpa [Spc.put] using ok.bs, by simpa [Spc.put] using ok.sh, fun i z e hz he => ?_, fun i z hz => ?_⟩
  · by_cases hid : i = d
    · subst hid
      have hlt := (List.getElem?_eq_some_iff.1 hy).1
      simp only [Spc.put, List.getElem?_set_self hlt, Option.some.injEq] at hz
      subst hz
      rw [hn]; exact ok.size i y e hy he
    · simp only [Spc.put, List.getElem?_set_ne (Ne.symm hid)] at hz
      exact ok.size i z e hz he
  · by_cases hid : i = d
    · subst hid
      have hlt := (List.getElem?_eq_some_iff.1 hy).1
      simp only [Spc.put, List.getElem?_set_self hlt, Option.some.injEq] at hz
      subst hz
      exact h
    · simp only [Spc.put, List.getElem?_set_ne (Ne.symm hid)] at hz
      exact ok.ok i z hz

def BestRel (X : Spc) (W : World) (gk : Nat) (b m i : Value) (wr : World) : Prop :=
  ∃ k : Nat, k ≤ (actives X.es).length ∧ gk = (actives X.es).length - k ∧ i = .int .i64 k ∧ b = .int .i64 ((bestOf X.free ((actives X.es).take k) (0, 0)).1 : Nat) ∧ m = .int .i64 ((bestOf X.free ((actives X.es).take k) (0, 0)).2 : Nat) ∧ ∃ q, wr = W.drewN q
def SeekRel (y : Shelf) (W : World) (gk : Nat) (kv : Value) (wr : World) : Prop :=
  ∃ k : Nat, kv = .int .i64 k ∧ gk = y.n - k ∧ 2 ≤ k ∧ k < y.n ∧ y.taken k = false ∧ (∀ j, 2 ≤ j → j < k → y.busy j = true) ∧ wr = W

end Go.Proofs.YtgbgneiciabidaaGreatDoor
