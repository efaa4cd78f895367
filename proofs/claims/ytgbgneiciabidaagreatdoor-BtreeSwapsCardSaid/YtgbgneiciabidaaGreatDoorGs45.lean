/-
  The door of a law: a script of layer 12 that came in.
-/
import Derived.Test.YtgbgneiciabidaaGreatDoorGs11
import Derived.Test.YtgbgneiciabidaaGreatDoorGs37
import Derived.Deep.Slices
import Derived.SizedLaws
namespace Go.Proofs.YtgbgneiciabidaaGreatDoor
open Go Go.ChangeShapes Go.WideShapes Go.ChangeAt Go.RowKit
set_option linter.all false
set_option maxHeartbeats 8000000
set_option maxRecDepth 100000 in
theorem op12_fields : ∃ f0 f1 f2 f3 : Field, Tryz.prog.underlying 83 = some (.struct #[f0, f1, f2, f3]) /\
  (f0.type = 3 /\ f0.offset = 0) /\ (f1.type = 3 /\ f1.offset = 1) /\ (f2.type = 3 /\ f2.offset = 2) /\ f3.type = 3 /\ f3.offset = 3 :=
 by
 refine ⟨_, _, _, _, Tryz.underlying83, ?_⟩
 exact ⟨⟨rfl, rfl⟩, ⟨rfl, rfl⟩, ⟨rfl, rfl⟩, rfl, rfl⟩
theorem cells_op12 : Tryz.prog.cellsOf 83 = 4 := by kernel_rfl
theorem cells_num : Tryz.prog.cellsOf 3 = 1 := by kernel_rfl
set_option maxRecDepth 100000 in
theorem op12_of_trod {H : Type} {enc : TypeId × Value -> H} {W : World} {base fuel : Nat} {spare : Nat -> Bool} {held : Bool} {cs : List Value} {x : DataW H × List MemPlace} (h : DataW.trod enc Tryz.prog W base spare held fuel 83 cs = some x) :
  ∃ o : O4, cs = [.int .i64 o.kd, .int .i64 o.tr, .int .i64 o.key, .int .i64 o.val] := by
 obtain ⟨f0, f1, f2, f3, hu, ⟨t0, o0⟩, ⟨t1, o1⟩, ⟨t2, o2⟩, t3, o3⟩ := op12_fields
 obtain ⟨xs, n, _, hx, hlen, hxl, hf⟩ := DataW.trod_struct hu h
 rw [cells_op12] at hlen
 match cs, hlen with
 | [c0, c1, c2, c3], _ =>
  have g0 := hf 0 f0 rfl
  have g1 := hf 1 f1 rfl
  have g2 := hf 2 f2 rfl
  have g3 := hf 3 f3 rfl
  rw [t0, o0, cells_num] at g0
  rw [t1, o1, cells_num] at g1
  rw [t2, o2, cells_num] at g2
  rw [t3, o3, cells_num] at g3
  match xs, hxl with
  | [x0, x1, x2, x3], _ =>
   obtain ⟨n0, e0, _, _⟩ := DataW.trod_int Tryz.underlying3 (show DataW.trod enc Tryz.prog W base spare held n 3 [c0] = some x0 from g0)
   obtain ⟨n1, e1, _, _⟩ := DataW.trod_int Tryz.underlying3 (show DataW.trod enc Tryz.prog W base spare held n 3 [c1] = some x1 from g1)
   obtain ⟨n2, e2, _, _⟩ := DataW.trod_int Tryz.underlying3 (show DataW.trod enc Tryz.prog W base spare held n 3 [c2] = some x2 from g2)
   obtain ⟨n3, e3, _, _⟩ := DataW.trod_int Tryz.underlying3 (show DataW.trod enc Tryz.prog W base spare held n 3 [c3] = some x3 from g3)
   obtain rfl : c0 = .int .i64 n0 := by simpa using e0
   obtain rfl : c1 = .int .i64 n1 := by simpa using e1
   obtain rfl : c2 = .int .i64 n2 := by simpa using e2
   obtain rfl : c3 = .int .i64 n3 := by simpa using e3
   exact ⟨⟨n0, n1, n2, n3⟩, rfl⟩
set_option maxRecDepth 100000 in
theorem script_of_trod {H : Type} {enc : TypeId × Value -> H} {W : World} {base fuel : Nat} {spare : Nat -> Bool} {held : Bool} {v : Value} {x : DataW H × List MemPlace} (h : DataW.trod enc Tryz.prog W base spare held fuel 81 [v] = some x) :
  ∃ os : List O4, O4Srcs [old W] v os := by
 rcases Go.Deep.open_slice Tryz.underlying81 h with ⟨hv, _⟩ | ⟨a, len, cap, m, n, D, Pl, hv, _, hlc, _, hm, hx, hi⟩
 ·obtain rfl : v = .slice none 0 0 := by simpa using hv
  exact ⟨[], fun w _ => ⟨none, 0, rfl, fun k hk => absurd hk (Nat.not_lt_zero _)⟩⟩
 ·obtain rfl : v = .slice (some a) len cap := by simpa using hv
  have hlm : len <= m := by rw [hm]; split <;> omega
  have each : ∀ i, i < len -> ∃ o : O4, W.cells? base (a.add (i * 4)) 4 = some [.int .i64 o.kd, .int .i64 o.tr, .int .i64 o.key, .int .i64 o.val] := by
   intro i hil
   obtain ⟨cs', hc, ht⟩ := hi i (by omega)
   rw [cells_op12] at hc
   obtain ⟨o, rfl⟩ := op12_of_trod ht
   exact ⟨o, hc⟩
  let os : List O4 := List.ofFn fun i : Fin len => (each i.1 i.2).choose
  have hol : os.length = len := by simp [os]
  have hos : ∀ k (hk : k < os.length), os[k] = (each k (by omega)).choose := fun k hk => by simp [os]
  refine ⟨os, fun w hh => ⟨some a, cap, by rw [hol], fun k hk => ?_⟩⟩
  have hs := (each k (by omega)).choose_spec
  rw [<- hos k hk] at hs
  obtain ⟨_, hl, hat⟩ := World.cells?_some hs
  obtain ⟨b, off, sp⟩ := a
  have hsp : sp = none := by
   obtain ⟨_, _, hat0⟩ := World.cells?_some (each 0 (by omega)).choose_spec
   have := hat0 0 (by omega)
   rw [Go.Deep.add_add, show 0 * 4 + 0 = 0 from rfl] at this
   cases sp with
   | none => rfl
   | some z =>
    exfalso
    unfold World.cell? Addr.add at this
    simp at this
    split at this <;> simp at this
  subst hsp
  refine ⟨b, off, rfl, ?_⟩
  have cell : ∀ j v, j < 4 -> [Value.int .i64 os[k].kd, .int .i64 os[k].tr, .int .i64 os[k].key, .int .i64 os[k].val][j]? = some v -> w.cell? ⟨b, off + k * 4 + j, none⟩ = some v := by
   intro j v hj hv
   have h1 := hat j hj
   rw [hv, Addr.add_lit, Addr.add_lit] at h1
   exact hh.old_cell (.head _) h1
  exact ⟨cell 0 _ (by omega) rfl, cell 1 _ (by omega) rfl, cell 2 _ (by omega) rfl, cell 3 _ (by omega) rfl⟩
/-
  The door of a law: numbers that came in, and how great they are.
-/
theorem srcb_of_trod {H : Type} {enc : TypeId × Value -> H} {W : World} {base fuel : Nat} {spare : Nat -> Bool} {held : Bool} {v : Value} {x : DataW H × List MemPlace} (h : DataW.trod enc Tryz.prog W base spare held fuel 22 [v] = some x) :
  ∃ xs : List Int, Src W v xs /\ ∀ z ∈ xs, -9223372036854775808 <= z /\ z <= 9223372036854775807 := by
 rcases open_ints Tryz.underlying22 Tryz.underlying3 cells_int h with ⟨hv, _⟩ | ⟨a, len, cap, zs, hv, _, hlc, _, hlen, _, hc, hw⟩
 ·exact ⟨[], .inl ⟨by simpa using hv, rfl⟩, fun z hz => by cases hz⟩
 ·have hle : len <= zs.length := by rw [hlen]; split <;> omega
  refine ⟨zs.take len, .inr ⟨a, cap, ?_, fun k hk => ?_⟩, fun z hz => ?_⟩
  ·rw [List.length_take, Nat.min_eq_left hle]; simpa using hv
  ·rw [List.length_take] at hk
   have := hc k (by omega)
   rw [this, List.getElem_take, List.getD_eq_getElem?_getD, List.getElem?_eq_getElem (by omega)]
   rfl
  ·have h1 := hw z (List.mem_of_mem_take hz)
   simp [Lit.wf, IntKind.min, IntKind.max, IntKind.signed, IntKind.bits] at h1
   omega
end Go.Proofs.YtgbgneiciabidaaGreatDoor
